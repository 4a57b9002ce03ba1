import Derived.Test.YtbkddpckkgbbmaaGreatDoorVsMap
import Derived.Sort.Walk0
import Derived.Sort.KeysCollected
import Derived.Maps.Ext
namespace Go.Oct
open Go Go.Vc

/-! ### the pairs between two bounds -/

theorem before_less : ∀ a b : List UInt8, bytesBefore a b = Op.bytesLess a b
  | [], [] => rfl
  | [], _ :: _ => rfl
  | _ :: _, [] => rfl
  | a :: r, b :: s => by simp only [bytesBefore, Op.bytesLess, before_less r s]

def SortedM (m : M) : Prop := m.Pairwise fun p q => p.1 < q.1

def inR (a b : List UInt8) (p : List UInt8 × List UInt8) : Bool := !(Op.bytesLess p.1 a || (!(b == []) && !(Op.bytesLess p.1 b)))
def rngM (a b : List UInt8) (m : M) : M := m.filter (inR a b)

theorem sort_keys {m : M} (h : SortedM m) {ss : List (List UInt8)} (hp : ss.Perm (m.map (·.1))) : ss.mergeSort (fun x y => decide (x ≤ y)) = m.map (·.1) := by
  have h1 := mergeSort_of_perm hp
  have h2 : (m.map (·.1)).Pairwise (fun a b => leB a b = true) := by
    rw [List.pairwise_map]
    exact h.imp fun hab => by simp only [leB, decide_eq_true_eq]; exact List.le_of_lt hab
  have h3 := List.mergeSort_of_pairwise h2
  exact h1.trans h3

theorem look_mem : ∀ {m : M}, SortedM m → ∀ {p}, p ∈ m → lookM p.1 m = some p.2 := by
  intro m
  induction m with
  | nil => intro _ p hp; cases hp
  | cons y r ih =>
    intro h p hp
    have h' := List.pairwise_cons.1 h
    unfold lookM
    rcases List.mem_cons.1 hp with rfl | hp
    · simp
    · have hlt := h'.1 p hp
      have hne : ¬ y.1 = p.1 := fun e => by rw [e] at hlt; exact List.lt_irrefl _ hlt
      rw [if_neg (by simpa using hne)]
      exact ih h'.2 hp

theorem sorted_of_canon {m : M} (h : Maps.Canon (DM m)) : SortedM m := by
  obtain ⟨es, he, hp, _⟩ := h
  have e : encM m = es := by injection he
  subst e
  unfold encM at hp
  rw [List.pairwise_map] at hp
  refine hp.imp fun {p q} hpq => ?_
  have : bytesBefore p.1 q.1 = true := hpq
  rw [before_less, Go.Proofs.bytesLess_eq] at this
  exact of_decide_eq_true this

end Go.Oct
