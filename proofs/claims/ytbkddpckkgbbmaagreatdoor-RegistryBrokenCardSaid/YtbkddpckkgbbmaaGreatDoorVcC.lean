import Derived.Test.YtbkddpckkgbbmaaGreatDoorVcB
namespace Go.Vc
open Go

variable {P : Program} {go : Value → World → Prop} {ρ : Env} {ds : List Deferred} {w : World} {K : Value → World → Prop}

theorem load_at {b o : Nat} {c : Array Value} {t : TypeId} {f : Nat × Nat} {v : Value} (h : w.heap[b]? = some (.cells c t f)) (hv : c[o]? = some v) :
    (load ⟨b, o, none⟩).run P w = .ok v w := by
  have hc : w.cell? ⟨b, o, none⟩ = some v := by simp [World.cell?, h, hv]
  simp [load, Sem.run, hc]

theorem add_off (b o i : Nat) : (Addr.add ⟨b, o, none⟩ i) = ⟨b, o + i, none⟩ := by
  unfold Addr.add; split
  · rename_i h; subst h; rfl
  · rfl

theorem loadCells_at {b o : Nat} {c : Array Value} {t : TypeId} {f : Nat × Nat} (h : w.heap[b]? = some (.cells c t f)) :
    ∀ (n i : Nat) (acc : Array Value), o + i + n ≤ c.size → (loadCellsFrom ⟨b, o, none⟩ i n acc).run P w = .ok (acc ++ c.extract (o + i) (o + i + n)) w := by
  intro n
  induction n with
  | zero => intro i acc _; simp only [loadCellsFrom]; rw [Nat.add_zero]; simp [pure, Sem.run]; omega
  | succ n ih =>
    intro i acc hn
    have hl : o + i < c.size := by omega
    have h1 := load_at (P := P) (o := o + i) h (Array.getElem?_eq_getElem hl)
    simp only [loadCellsFrom, Sem.run_bind, add_off, h1, Result.andThen]
    rw [ih (i + 1) _ (by omega)]
    congr 1
    apply Array.ext'
    simp only [Array.toList_append, Array.toList_push, Array.toList_extract, List.append_assoc, List.extract_eq_take_drop]
    congr 1
    have e1 : o + (i + 1) + n - (o + (i + 1)) = n := by omega
    have e2 : o + i + (n + 1) - (o + i) = n + 1 := by omega
    have hd : List.drop (o + i) c.toList = c[o + i] :: List.drop (o + (i + 1)) c.toList := by
      rw [List.drop_eq_getElem_cons (i := o + i) (by simpa using hl)]; simp [Nat.add_assoc]
    rw [e1, e2, hd]
    simp

theorem ext_get {a b : Array Obj} (h : ∀ i : Nat, a[i]? = b[i]?) : a = b := Array.ext_getElem? h

theorem setCell_at {b o : Nat} {c : Array Value} {t : TypeId} {f : Nat × Nat} (v : Value) (h : w.heap[b]? = some (.cells c t f)) :
    w.setCell ⟨b, o, none⟩ v = set w b (.cells (c.setIfInBounds o v) t f) := by
  have hb := lt_of_get h
  unfold World.setCell set
  congr 1
  apply ext_get
  intro i
  rw [Array.getElem?_modify]
  by_cases e : b = i
  · subst e
    rw [if_pos rfl, h, Array.getElem?_setIfInBounds_self]
    simp [hb]
  · rw [if_neg e, Array.getElem?_setIfInBounds_ne e]

theorem store_at {b o : Nat} {c : Array Value} {t : TypeId} {f : Nat × Nat} {v : Value} (h : w.heap[b]? = some (.cells c t f)) (ho : o < c.size) (hf : (decide (f.1 ≤ o) && decide (o < f.2)) = false) (hp : isPlain v = true) :
    (store ⟨b, o, none⟩ v).run P w = .ok () (set w b (.cells (c.setIfInBounds o v) t f)) := by
  have hc : w.cell? ⟨b, o, none⟩ = some c[o] := by simp [World.cell?, h, ho]
  have hz : w.frozen? ⟨b, o, none⟩ = false := by simp only [World.frozen?, h]; exact hf
  have hs := setCell_at (o := o) v h
  cases v <;> first | (simp [isPlain] at hp; done) | simp [store, Sem.run, hc, hz, hs]

theorem set_self {b : Nat} {o : Obj} (h : w.heap[b]? = some o) : set w b o = w := by
  unfold set
  have : w.heap.setIfInBounds b o = w.heap := by
    apply ext_get
    intro i
    by_cases e : b = i
    · subst e; rw [Array.getElem?_setIfInBounds_self, h]; simp [lt_of_get h]
    · rw [Array.getElem?_setIfInBounds_ne e]
  rw [this]
theorem set_set (w : World) (b : Nat) (o o' : Obj) : set (set w b o) b o' = set w b o' := by simp [set]

theorem storeCells_at : ∀ (l : List Value) {w : World} {b o i : Nat} {c : Array Value} {t : TypeId}, w.heap[b]? = some (.cells c t (0, 0)) → o + i + l.length ≤ c.size → l.all isPlain = true →
    (storeCells ⟨b, o, none⟩ l i).run P w = .ok () (set w b (.cells (setMany c (o + i) l) t (0, 0))) := by
  intro l
  induction l with
  | nil => intro w b o i c t h _ _; simp [storeCells, pure, setMany, set_self h, Sem.run]
  | cons v l ih =>
    intro w b o i c t h ho hp
    simp only [List.length_cons] at ho
    simp only [List.all_cons, Bool.and_eq_true] at hp
    have h1 := store_at (P := P) (v := v) h (o := o + i) (by omega) (by simp) hp.1
    simp only [storeCells, Sem.run_bind, add_off, h1, Result.andThen]
    have hb := lt_of_get h
    have h2 := ih (w := set w b (.cells (c.setIfInBounds (o + i) v) t (0, 0))) (b := b) (o := o) (i := i + 1) (c := c.setIfInBounds (o + i) v) (t := t) (get_set_same _ _ _ hb) (by simp; omega) hp.2
    rw [h2, set_set]
    simp only [setMany, Nat.add_assoc]

end Go.Vc
