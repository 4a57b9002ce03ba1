import Derived.RangeFuncLeaves
import Derived.RangeFuncNested
import Derived.RangeFuncCalls
import Derived.WalkKit
import Derived.KernelRfl
namespace Go.Vc
open Go

/-! ### worlds -/

/-- w' is w but for the blocks of S and for what is new. -/
structure Mod (S : Nat → Prop) (w w' : World) : Prop where
  os : w'.os = w.os
  tape : w'.tape = w.tape
  output : w'.output = w.output
  size : w.heap.size ≤ w'.heap.size
  get : ∀ k, k < w.heap.size → ¬ S k → w'.heap[k]? = w.heap[k]?

def set (w : World) (b : Nat) (o : Obj) : World := { w with heap := w.heap.setIfInBounds b o }

theorem Mod.refl (S : Nat → Prop) (w : World) : Mod S w w := ⟨rfl, rfl, rfl, Nat.le_refl _, fun _ _ _ => rfl⟩
theorem Mod.trans {S : Nat → Prop} {a b c : World} (h : Mod S a b) (k : Mod S b c) : Mod S a c :=
  ⟨k.os.trans h.os, k.tape.trans h.tape, k.output.trans h.output, Nat.le_trans h.size k.size, fun i hi hs => (k.get i (Nat.lt_of_lt_of_le hi h.size) hs).trans (h.get i hi hs)⟩
theorem Mod.mono {S S' : Nat → Prop} {a b : World} (h : Mod S a b) (hS : ∀ k, k < a.heap.size → S k → S' k) : Mod S' a b :=
  ⟨h.os, h.tape, h.output, h.size, fun i hi hs => h.get i hi (fun x => hs (hS i hi x))⟩
theorem Mod.alloc {S : Nat → Prop} {a w : World} (h : Mod S a w) (o : Obj) : Mod S a (w.alloc o) :=
  h.trans ⟨rfl, rfl, rfl, by simp, fun k hk _ => by simp only [World.alloc, Array.getElem?_push]; rw [if_neg (by omega)]⟩
theorem Mod.drew {S : Nat → Prop} {a w : World} (h : Mod S a w) : Mod S a w.drew := h.trans ⟨rfl, rfl, rfl, Nat.le_refl _, fun _ _ _ => rfl⟩
theorem Mod.set {S : Nat → Prop} {a w : World} (h : Mod S a w) {b : Nat} {o : Obj} (hb : a.heap.size ≤ b ∨ S b) : Mod S a (Vc.set w b o) :=
  ⟨h.os, h.tape, h.output, by simp only [Vc.set, Array.size_setIfInBounds]; exact h.size, fun k hk hs => by
    rw [← h.get k hk hs]; simp only [Vc.set]
    refine Array.getElem?_setIfInBounds_ne ?_
    rintro rfl
    exact hb.elim (fun x => by omega) hs⟩
/-- a second leg that may change what was new in the first. -/
theorem Mod.then {S T : Nat → Prop} {a b c : World} (h : Mod S a b) (k : Mod T b c) (hT : ∀ i, i < a.heap.size → T i → S i) : Mod S a c :=
  ⟨k.os.trans h.os, k.tape.trans h.tape, k.output.trans h.output, Nat.le_trans h.size k.size, fun i hi hs => (k.get i (Nat.lt_of_lt_of_le hi h.size) (fun x => hs (hT i hi x))).trans (h.get i hi hs)⟩
theorem Mod.below {w w' : World} (h : Mod (fun _ => False) w w') : Go.RowKit.Below w.heap.size w w' := ⟨h.os, h.tape, h.output, h.size, fun k hk => h.get k hk id⟩
theorem Mod.of_below {w w' : World} (h : Go.RowKit.Below w.heap.size w w') : Mod (fun _ => False) w w' := ⟨h.os, h.tape, h.output, h.size, fun k hk _ => h.block k hk⟩

theorem size_set (w : World) (b : Nat) (o : Obj) : (set w b o).heap.size = w.heap.size := by simp [set]
theorem size_alloc (w : World) (o : Obj) : (w.alloc o).heap.size = w.heap.size + 1 := World.size_alloc _ _
theorem size_drew (w : World) : w.drew.heap.size = w.heap.size := rfl
theorem get_alloc_new (w : World) (o : Obj) : (w.alloc o).heap[w.heap.size]? = some o := by
  show (w.heap.push o)[w.heap.size]? = some o
  simp
theorem get_alloc_new' (w : World) (o : Obj) (k : Nat) (h : k = w.heap.size) : (w.alloc o).heap[k]? = some o := by subst h; exact get_alloc_new w o
theorem get_alloc_old (w : World) (o : Obj) (k : Nat) (h : k < w.heap.size) : (w.alloc o).heap[k]? = w.heap[k]? := by
  simp only [World.alloc, Array.getElem?_push]; rw [if_neg (by omega)]
theorem get_set_same (w : World) (b : Nat) (o : Obj) (h : b < w.heap.size) : (set w b o).heap[b]? = some o := by simp [set, h]
theorem get_set_same' (w : World) (b k : Nat) (o : Obj) (e : k = b) (h : b < w.heap.size) : (set w b o).heap[k]? = some o := by subst e; exact get_set_same w _ o h
theorem get_set_other (w : World) (b k : Nat) (o : Obj) (h : k ≠ b) : (set w b o).heap[k]? = w.heap[k]? := by
  simp only [set]; exact Array.getElem?_setIfInBounds_ne (Ne.symm h)
theorem get_drew (w : World) (k : Nat) : w.drew.heap[k]? = w.heap[k]? := rfl
theorem lt_of_get {w : World} {k : Nat} {o : Obj} (h : w.heap[k]? = some o) : k < w.heap.size := by
  rcases Nat.lt_or_ge k w.heap.size with x | x
  · exact x
  · rw [Array.getElem?_eq_none x] at h; cases h

/-! ### frames as functions -/

abbrev Env := Nat → Value
def upd (ρ : Env) (d : Nat) (v : Value) : Env := fun i => if i = d then v else ρ i
def updO (ρ : Env) : Option Nat → Value → Env
  | none, _ => ρ
  | some d, v => upd ρ d v
def ev (ρ : Env) : Operand → Value
  | .tmp t => ρ t
  | .const v => v
  | .global g => .pointer (some ⟨g, 0, none⟩)
  | .func f => .func (.func f) #[] #[]
def tm (n : Nat) (ρ : Env) : Array Value := (Array.range n).map ρ
def mkA (n : Nat) (ρ : Env) (ds : List Deferred) : Act := ⟨tm n ρ, ds⟩
def inB (n : Nat) : Operand → Bool
  | .tmp t => t < n
  | _ => true

theorem tm_getD (n : Nat) (ρ : Env) (t : Nat) (h : t < n) : (tm n ρ).getD t undef = ρ t := by simp [tm, h]
theorem tm_get (n : Nat) (ρ : Env) (t : Nat) (h : t < n) : (tm n ρ)[t]? = some (ρ t) := by simp [tm, h]
theorem tm_size (n : Nat) (ρ : Env) : (tm n ρ).size = n := by simp [tm]
theorem tm_set (n : Nat) (ρ : Env) (d : Nat) (v : Value) : (tm n ρ).setIfInBounds d v = tm n (upd ρ d v) := by
  apply Array.ext
  · simp [tm]
  · intro i h1 h2
    have hi : i < n := by simpa [tm] using h2
    have : ((tm n ρ).setIfInBounds d v)[i]? = (tm n (upd ρ d v))[i]? := by
      rw [tm_get _ _ _ hi]
      by_cases e : d = i
      · subst e; rw [Array.getElem?_setIfInBounds_self]; simp [upd, tm, hi]
      · rw [Array.getElem?_setIfInBounds_ne e, tm_get _ _ _ hi]; simp [upd, Ne.symm e]
    rw [Array.getElem?_eq_getElem h1, Array.getElem?_eq_getElem h2] at this
    exact Option.some.inj this
theorem mkA_eval (n : Nat) (ρ : Env) (ds : List Deferred) (x : Operand) (h : inB n x = true) : (mkA n ρ ds).eval x = ev ρ x := by
  cases x with
  | tmp t => simp only [inB, decide_eq_true_eq] at h; exact tm_getD n ρ t h
  | _ => rfl
theorem mkA_put (n : Nat) (ρ : Env) (ds : List Deferred) (d : Option Nat) (v : Value) : (mkA n ρ ds).put d v = mkA n (updO ρ d v) ds := by
  cases d with
  | none => rfl
  | some d => simp only [Act.put, mkA, tm_set, updO]

/-! ### calls -/

def FW (ro : Option Nat) : Fence := { Fence.wide with round := ro }

/-- f returns, and K of what. -/
def CallP (P : Program) (f : FuncId) (args : Array Value) (w : World) (K : Value → World → Prop) : Prop :=
  CallsIn Fence.wide 0 P f args w fun e w' => ∃ v, e = .returned v ∧ K v w'

theorem callP_mono {P : Program} {f : FuncId} {args : Array Value} {w : World} {K K' : Value → World → Prop} (h : CallP P f args w K) (hk : ∀ v w', K v w' → K' v w') : CallP P f args w K' :=
  CallsIn.mono h fun _ _ ⟨v, e, x⟩ => ⟨v, e, hk _ _ x⟩

def RoundP (P : Program) (l : Nat) (f : FuncId) (tmps : Array Value) (as bd : Code) (w : World) (K : Value → World → Prop) : Prop :=
  RoundIn Fence.wide 0 P l f tmps as bd w fun e w' => ∃ v, e = .returned v ∧ K v w'

/-- What an operation comes to. -/
def upon (P : Program) (K : Value → World → Prop) : Result Next → Prop
  | .ok (.value v) w => K v w
  | .ok .skip w => K undef w
  | .ok (.enter f args) w => CallP P f args w K
  | .ok (.round l f tmps as bd) w => RoundP P l f tmps as bd w K
  | _ => False

theorem uponIn_of_upon {P : Program} {ro : Option Nat} {o : Oper} {a : Act} {next : Act → World → Prop} {Q : Exit → Act → World → Prop} {r : Result Next}
    (h : upon P (fun v w => next (a.put o.dst v) w) r) : o.uponIn (FW ro) 0 P a next Q r := by
  match r, h with
  | .ok (.value v) w, h => exact h
  | .ok .skip w, h => exact h
  | .ok (.enter f args) w, h =>
    refine ⟨fun x => by simp [FW, Fence.wide] at x, ?_⟩
    have h' : CallsIn (FW ro) 0 P f args w _ := h
    refine CallsIn.mono h' ?_
    rintro e w' ⟨v, rfl, x⟩
    exact x
  | .ok (.round l f tmps as bd) w, h =>
    refine ⟨fun x => by simp [FW, Fence.wide] at x, ?_⟩
    have h' : RoundIn (FW ro) 0 P l f tmps as bd w _ := h
    refine RoundIn.mono h' ?_
    rintro e w' ⟨v, rfl, x⟩
    exact x

end Go.Vc
