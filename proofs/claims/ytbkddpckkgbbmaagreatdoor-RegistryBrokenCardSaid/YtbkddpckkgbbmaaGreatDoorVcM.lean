import Derived.Test.YtbkddpckkgbbmaaGreatDoorVcL
namespace Go.Vc
open Go

variable {P : Program} {ro : Option Nat} {n : Nat} {ops : Array Oper} {C : World → Prop}

/-! ### regions with open order: what does not look at the world goes straight on -/

def pureI : Ins → Bool
  | .mv _ | .pick .. | .nilc _ | .iop .. | .sop .. | .bop .. | .pnil .. | .not _ | .conv .. | .same _ | .mkI .. | .mkF .. | .faddr .. | .fld1 .. | .fldN .. | .iaddr .. | .iaddrA .. | .sidx .. | .ext .. | .lenS _ | .lenL _ | .build .. | .slS .. | .slL .. | .slA .. => true
  | _ => false

theorem loadV_pure {w0 : World} {k : Value → Prop} {o : Option Value} (h : loadV (fun v _ => k v) w0 o) : ∃ v, (∀ w, loadV (fun v' w' => w' = w ∧ v' = v) w o) ∧ k v := by
  cases o with
  | none => exact h.elim
  | some v => exact ⟨v, fun w => ⟨rfl, rfl⟩, h⟩

theorem pure_step {ρ : Env} {w0 : World} {k : Value → Prop} {i : Ins} (hi : pureI i = true) (h : insVc P (fun v _ => k v) ρ [] w0 i) : ∃ v, (∀ w, insVc P (fun v' w' => w' = w ∧ v' = v) ρ [] w i) ∧ k v := by
  cases i <;> first | (simp [pureI] at hi; done) | skip
  all_goals simp only [insVc] at h ⊢
  case mv x => exact ⟨_, fun w => ⟨by trivial, rfl⟩, h⟩
  case pick c a b => unfold pickK at h ⊢; split at h <;> first | exact ⟨_, fun w => ⟨rfl, rfl⟩, h⟩ | exact h.elim
  case nilc x => unfold nilK at h ⊢; split at h <;> first | exact ⟨_, fun w => ⟨rfl, rfl⟩, h⟩ | exact ⟨_, fun w => ⟨h.1, rfl, rfl⟩, h.2⟩ | exact h.elim
  case iop op x y =>
    unfold iopK at h ⊢
    split at h
    · obtain ⟨h1, h2⟩ := h
      obtain ⟨v, e, kv⟩ := loadV_pure h2
      exact ⟨v, fun w => ⟨h1, e w⟩, kv⟩
    · exact h.elim
  case sop op x y => unfold sopK at h ⊢; split at h <;> first | exact loadV_pure h | exact h.elim
  case bop neq x y => unfold bopK at h ⊢; split at h <;> first | exact ⟨_, fun w => ⟨rfl, rfl⟩, h⟩ | exact h.elim
  case pnil k' neq x => unfold pnilK at h ⊢; split at h <;> first | exact ⟨_, fun w => ⟨rfl, rfl⟩, h⟩ | exact h.elim
  case not x => unfold notK at h ⊢; split at h <;> first | exact ⟨_, fun w => ⟨rfl, rfl⟩, h⟩ | exact h.elim
  case conv k' x => unfold convK at h ⊢; split at h <;> first | exact ⟨_, fun w => ⟨rfl, rfl⟩, h⟩ | exact h.elim
  case same x => unfold sameK at h ⊢; split at h <;> first | exact ⟨_, fun w => ⟨rfl, rfl⟩, h⟩ | exact h.elim
  case mkI t x => exact ⟨_, fun w => ⟨by trivial, rfl⟩, h⟩
  case mkF fn f c => exact ⟨_, fun w => ⟨by trivial, rfl⟩, h⟩
  case faddr off x => unfold faddrK at h ⊢; split at h <;> first | exact ⟨_, fun w => ⟨rfl, rfl⟩, h⟩ | exact h.elim
  case fld1 off x => unfold fld1K at h ⊢; split at h <;> first | exact loadV_pure h | exact h.elim
  case fldN off m x => unfold fldNK at h ⊢; split at h <;> first | exact ⟨_, fun w => ⟨rfl, rfl⟩, h⟩ | exact h.elim
  case iaddr sz x i => unfold iaddrK at h ⊢; split at h <;> first | exact ⟨_, fun w => ⟨h.1, rfl, rfl⟩, h.2⟩ | exact h.elim
  case iaddrA len sz x i => unfold iaddrAK at h ⊢; split at h <;> first | exact ⟨_, fun w => ⟨h.1, rfl, rfl⟩, h.2⟩ | exact h.elim
  case sidx x i =>
    unfold sidxK at h ⊢
    split at h
    · obtain ⟨h1, h2⟩ := h
      obtain ⟨v, e, kv⟩ := loadV_pure h2
      exact ⟨v, fun w => ⟨h1, e w⟩, kv⟩
    · exact h.elim
  case ext x i => unfold extK at h ⊢; split at h <;> first | exact loadV_pure h | exact h.elim
  case lenS x => unfold lenSK at h ⊢; split at h <;> first | exact ⟨_, fun w => ⟨rfl, rfl⟩, h⟩ | exact h.elim
  case lenL x => unfold lenLK at h ⊢; split at h <;> first | exact ⟨_, fun w => ⟨rfl, rfl⟩, h⟩ | exact h.elim
  case build zero parts => unfold buildK at h ⊢; split at h <;> first | exact ⟨_, fun w => ⟨rfl, rfl⟩, h⟩ | exact h.elim
  case slS x lo hi =>
    unfold slSK at h ⊢
    split at h
    · split at h
      · exact ⟨_, fun w => ⟨h.1, rfl, rfl⟩, h.2⟩
      · exact h.elim
    · exact h.elim
  case slL sz x lo hi =>
    unfold slLK at h ⊢
    split at h
    · split at h
      · exact ⟨_, fun w => ⟨h.1, rfl, rfl⟩, h.2⟩
      · exact h.elim
    · exact h.elim
  case slA m sz x lo hi =>
    unfold slAK at h ⊢
    split at h
    · split at h
      · exact ⟨_, fun w => ⟨h.1, rfl, rfl⟩, h.2⟩
      · exact h.elim
    · exact h.elim

/-- a step that looks at the world: the same value in every world of the class. -/
def LookQ (P : Program) (C : World → Prop) (ρ : Env) (i : Ins) (k : Value → Prop) : Prop := ∃ v, (∀ w, C w → insQ P C ρ w v i) ∧ k v

def stepB (P : Program) (C : World → Prop) (ρ : Env) (i : Ins) (k : Value → Prop) : Bool → Prop
  | true => insVc P (fun v _ => k v) ρ [] default i
  | false => LookQ P C ρ i k

theorem stepB_sound {ρ : Env} {i : Ins} {k : Value → Prop} (h : stepB P C ρ i k (pureI i)) : ∃ v, (∀ w, C w → insQ P C ρ w v i) ∧ k v := by
  cases hp : pureI i with
  | false => rw [hp] at h; exact h
  | true =>
    rw [hp] at h
    obtain ⟨v, e, kv⟩ := pure_step hp h
    refine ⟨v, fun w _ => ?_, kv⟩
    have := e w
    cases i <;> first | exact this | (simp [pureI] at hp; done)

def vcS (P : Program) (C : World → Prop) : List In → (Env → Prop) → Env → Prop
  | [], K, ρ => K ρ
  | ⟨none, d, i⟩ :: l, K, ρ => stepB P C ρ i (fun v => vcS P C l K (updO ρ d v)) (pureI i)
  | ⟨some (s, want), d, i⟩ :: l, K, ρ =>
    match gate (ρ s) want with
    | true => stepB P C ρ i (fun v => vcS P C l K (updO ρ d v)) (pureI i)
    | false => vcS P C l K (updO ρ d undef)

def gateS (P : Program) (C : World → Prop) (i : Ins) (l : List In) (K : Env → Prop) (ρ : Env) (d : Option Nat) : Bool → Prop
  | true => stepB P C ρ i (fun v => vcS P C l K (updO ρ d v)) (pureI i)
  | false => vcS P C l K (updO ρ d undef)

theorem vcS_nil {K : Env → Prop} {ρ : Env} : vcS P C [] K ρ = K ρ := nr rfl
theorem vcS_cons {K : Env → Prop} {ρ : Env} {d : Option Nat} {i : Ins} {l : List In} : vcS P C (⟨none, d, i⟩ :: l) K ρ = stepB P C ρ i (fun v => vcS P C l K (updO ρ d v)) (pureI i) := nr rfl
theorem vcS_gate {K : Env → Prop} {ρ : Env} {s : Nat} {want : Bool} {d : Option Nat} {i : Ins} {l : List In} : vcS P C (⟨some (s, want), d, i⟩ :: l) K ρ = gateS P C i l K ρ d (gate (ρ s) want) := by
  simp only [vcS]; cases gate (ρ s) want <;> rfl
theorem gateS_true {K : Env → Prop} {ρ : Env} {d : Option Nat} {i : Ins} {l : List In} : gateS P C i l K ρ d true = stepB P C ρ i (fun v => vcS P C l K (updO ρ d v)) (pureI i) := nr rfl
theorem gateS_false {K : Env → Prop} {ρ : Env} {d : Option Nat} {i : Ins} {l : List In} : gateS P C i l K ρ d false = vcS P C l K (updO ρ d undef) := nr rfl
theorem gateS_split {K : Env → Prop} {ρ : Env} {d : Option Nat} {i : Ins} {l : List In} {t : Bool} (h1 : t = true → stepB P C ρ i (fun v => vcS P C l K (updO ρ d v)) (pureI i)) (h2 : t = false → vcS P C l K (updO ρ d undef)) : gateS P C i l K ρ d t := by
  cases t
  · exact h2 rfl
  · exact h1 rfl
theorem stepB_true {ρ : Env} {i : Ins} {k : Value → Prop} : stepB P C ρ i k true = insVc P (fun v _ => k v) ρ [] default i := nr rfl
theorem stepB_false {ρ : Env} {i : Ins} {k : Value → Prop} : stepB P C ρ i k false = LookQ P C ρ i k := nr rfl

theorem vcQ_of_vcS {K : Env → Prop} : ∀ (l : List In) (ρ : Env), vcS P C l K ρ → vcQ P C l K ρ := by
  intro l
  induction l with
  | nil => intro ρ h; exact h
  | cons x l ih =>
    intro ρ h
    obtain ⟨g, d, i⟩ := x
    cases g with
    | none =>
      obtain ⟨v, e, kv⟩ := stepB_sound h
      exact ⟨v, e, ih _ kv⟩
    | some p =>
      obtain ⟨s, want⟩ := p
      simp only [vcS] at h
      simp only [vcQ]
      cases hg : gate (ρ s) want with
      | true =>
        simp only [hg] at h
        obtain ⟨v, e, kv⟩ := stepB_sound h
        exact ⟨v, e, ih _ kv⟩
      | false => simp only [hg] at h; exact ih _ h

/-- ████ a region whose order is open. ████ -/
theorem draw_s (C : World → Prop) {id : Nat} {l : List In} {Q : QT} {ρ : Env} {ds : List Deferred} {w : World} (hm : P.follows .mixedOrders = true) (hB : Region.lexB .any ops = true) (hl : compOps P n ops ops.toList = some l)
    (hC : C w.drew) (h : vcS P C l (fun ρ' => ∀ w', C w' → Q .normal ρ' ds w') ρ) : vc P ro n (.draw id ops l) Q ρ ds w :=
  draw_quiet C hm hB hl hC (vcQ_of_vcS l ρ h)

/-- a call. -/
theorem look_call {ρ : Env} {f : FuncId} {args : List Operand} {k : Value → Prop} (v : Value) (h : ∀ w, C w → Ok P f (args.map (ev ρ)).toArray w fun v' w' => v' = v ∧ C w') (hk : k v) : LookQ P C ρ (.call f args) k := ⟨v, h, hk⟩
theorem look_load {ρ : Env} {x : Operand} {k : Value → Prop} {b o : Nat} {v : Value} (hx : ev ρ x = .pointer (some ⟨b, o, none⟩)) (h : ∀ w, C w → ∃ c t f, w.heap[b]? = some (.cells c t f) ∧ c[o]? = some v) (hk : k v) : LookQ P C ρ (.load1 x) k := by
  refine ⟨v, fun w hw => ?_, hk⟩
  obtain ⟨c, t, f, h1, h2⟩ := h w hw
  simp only [insQ, insVc, hx, load1K, h1, loadO, h2, loadV]
  exact ⟨trivial, trivial⟩

end Go.Vc
