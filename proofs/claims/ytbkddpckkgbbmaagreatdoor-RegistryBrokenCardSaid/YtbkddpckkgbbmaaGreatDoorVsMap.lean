import Derived.Test.YtbkddpckkgbbmaaGreatDoorVsOct
import Derived.Maps.OwnSet
namespace Go.Oct
open Go Go.Vc

/-! ### maps from texts to texts, in plain Lean -/

abbrev M := List (List UInt8 × List UInt8)
def encM (m : M) : List (Lit × DataW Unit) := m.map fun p => (.string p.1, .lit (.string p.2))
def DM (m : M) : DataW Unit := .map (encM m)
def insM (x : List UInt8 × List UInt8) : M → M
  | [] => [x]
  | y :: r => if bytesBefore x.1 y.1 then x :: y :: r else y :: insM x r
def putM (k v : List UInt8) (m : M) : M := insM (k, v) (m.filter fun p => !(p.1 == k))
def delM (k : List UInt8) (m : M) : M := m.filter fun p => !(p.1 == k)
def lookM (k : List UInt8) : M → Option (List UInt8)
  | [] => none
  | p :: r => if p.1 == k then some p.2 else lookM k r

theorem enc_ins (x : List UInt8 × List UInt8) (m : M) : encM (insM x m) = DataW.insert (.string x.1, .lit (.string x.2)) (encM m) := by
  induction m with
  | nil => rfl
  | cons y r ih =>
    have hb : ∀ (a b : List UInt8 × List UInt8), ((Lit.string a.1, DataW.lit (Lit.string a.2)) : Lit × DataW Unit).1.before ((Lit.string b.1, DataW.lit (Lit.string b.2)) : Lit × DataW Unit).1 = bytesBefore a.1 b.1 := fun _ _ => rfl
    show encM (if bytesBefore x.1 y.1 then x :: y :: r else y :: insM x r) = DataW.insert _ ((Lit.string y.1, DataW.lit (Lit.string y.2)) :: encM r)
    by_cases h : bytesBefore x.1 y.1 = true
    · rw [if_pos h, DataW.insert, if_pos (by rw [hb]; exact h)]; rfl
    · rw [if_neg h, DataW.insert, if_neg (by rw [hb]; exact h), ← ih]; rfl
theorem enc_filter (k : List UInt8) (m : M) : encM (m.filter fun p => !(p.1 == k)) = (encM m).filter fun p => !p.1.sameKey (.string k) := by
  induction m with
  | nil => rfl
  | cons y r ih =>
    simp only [encM, List.map_cons, List.filter_cons, Lit.sameKey] at ih ⊢
    split
    · simp only [List.map_cons]; congr 1
    · exact ih
theorem DM_put (k v : List UInt8) (m : M) : (DM m).put (.string k) (.lit (.string v)) = DM (putM k v m) := by
  simp only [DM, DataW.put, putM, enc_ins, enc_filter]
theorem DM_del (k : List UInt8) (m : M) : (DM m).del (.string k) = DM (delM k m) := by
  simp only [DM, DataW.del, delM, enc_filter]
theorem DM_has (k : List UInt8) (m : M) : Maps.has (DM m) (.string k) = (lookM k m).isSome := by
  induction m with
  | nil => rfl
  | cons y r ih =>
    simp only [DM, encM, Maps.has, List.map_cons, List.any_cons, Lit.sameKey, lookM] at ih ⊢
    by_cases h : y.1 == k
    · simp [h]
    · simp only [h, Bool.false_or, if_false]; simpa using ih
theorem DM_at (k z : List UInt8) (m : M) : (DM m).atKey (.string k) (.lit (.string z)) = .lit (.string ((lookM k m).getD z)) := by
  induction m with
  | nil => rfl
  | cons y r ih =>
    simp only [DM, encM, DataW.atKey, List.map_cons, List.find?_cons, Lit.sameKey, lookM] at ih ⊢
    by_cases h : y.1 == k
    · simp [h]
    · simp only [h] at ih ⊢; simpa using ih

end Go.Oct
