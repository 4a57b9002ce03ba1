import Derived.Test.YtbkddpckkgbbmaaGreatDoorVcO
namespace Go.Vc
open Go

variable {P : Program}

theorem callK_mono {K K' : Value → World → Prop} {f : FuncId} {args : List Value} {w : World} (h : CallK P K f args w) (hk : ∀ v w', K v w' → K' v w') : CallK P K' f args w := Ok.mono h hk

theorem callvK_mono {K K' : Value → World → Prop} {w : World} {args : List Value} {y : Value} (h : callvK P K w args y) (hk : ∀ v w', K v w' → K' v w') : callvK P K' w args y := by
  cases y with
  | func f first cap =>
    cases f with
    | func f => exact callK_mono h hk
    | yield l => exact upon_mono hk h
    | _ => exact False.elim h
  | _ => exact False.elim h

/-- the blocks from lo on to w's end are as in w. -/
def Kept (lo : Nat) (w u : World) : Prop := w.heap.size ≤ u.heap.size ∧ ∀ k, lo ≤ k → k < w.heap.size → u.heap[k]? = w.heap[k]?
theorem Kept.refl (lo : Nat) (w : World) : Kept lo w w := ⟨Nat.le_refl _, fun _ _ _ => rfl⟩
theorem Kept.keep {lo : Nat} {w a b : World} (h : Kept lo w a) {S : Nat → Prop} (hm : Mod S a b) (hS : ∀ k, lo ≤ k → k < w.heap.size → ¬ S k) : Kept lo w b := by
  have h1 := h.1
  exact ⟨Nat.le_trans h.1 hm.size, fun k h2 h3 => (hm.get k (by omega) (hS k h2 h3)).trans (h.2 k h2 h3)⟩
theorem Kept.at {lo : Nat} {w u : World} (h : Kept lo w u) {k : Nat} {o : Obj} (hk : w.heap[k]? = some o) (hlo : lo ≤ k) : u.heap[k]? = some o := (h.2 k hlo (lt_of_get hk)).trans hk
theorem Kept.trans {lo : Nat} {a b c : World} (h : Kept lo a b) (k : Kept lo b c) : Kept lo a c := by
  have h1 := h.1
  exact ⟨Nat.le_trans h.1 k.1, fun i h2 h3 => (k.2 i h2 (by omega)).trans (h.2 i h2 h3)⟩

end Go.Vc
