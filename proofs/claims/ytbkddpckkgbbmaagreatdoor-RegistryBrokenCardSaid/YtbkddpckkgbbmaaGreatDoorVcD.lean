import Derived.Test.YtbkddpckkgbbmaaGreatDoorVcC
namespace Go.Vc
open Go

variable {P : Program} {go : Value → World → Prop} {ρ : Env} {ds : List Deferred} {w : World}

theorem run_underlying {t : TypeId} {d : TypeDesc} (h : P.underlying t = some d) (w : World) : (underlying t).run P w = .ok d w := by simp [underlying, program, Sem.run_bind, Sem.run, h, Result.andThen, pure]
theorem run_sizeOf {t : TypeId} {s : Nat} (h : csz P t = some s) (w : World) : (sizeOf t).run P w = .ok s w := by
  unfold csz at h
  cases hi : P.info? t with
  | none => simp [hi] at h
  | some i => simp [hi] at h; simp [sizeOf, typeInfo, program, Sem.run_bind, Sem.run, hi, h, Result.andThen, pure]
theorem run_zeroValue {t : TypeId} {v : Value} (h : zeroOf P t = some v) (w : World) : (zeroValue t).run P w = .ok v w := by
  unfold zeroOf at h
  cases hi : P.info? t with
  | none => simp [hi] at h
  | some i => simp [hi] at h; simp [zeroValue, typeInfo, program, Sem.run_bind, Sem.run, hi, h, Result.andThen, pure]
theorem run_isAgg {t : TypeId} {a : Bool} (h : aggOf P t = some a) (w : World) : (isAgg t).run P w = .ok a w := by
  unfold aggOf at h
  cases hd : P.underlying t with
  | none => simp [hd] at h
  | some d =>
    simp [hd] at h; subst h
    simp only [isAgg, Sem.run_bind, run_underlying hd, Result.andThen]
    cases d <;> simp [isAggD, Sem.run, pure]
theorem run_newObj (o : Obj) (w : World) : (newObj o).run P w = .ok w.heap.size (w.alloc o) := rfl
theorem run_program (w : World) : (program).run P w = .ok P w := rfl

theorem run_v (s : Sem Value) : (do pure (Next.value (← s)) : Sem Next).run P w = (match s.run P w with | .ok v w' => .ok (.value v) w' | .halt h w' => .halt h w') := by
  rw [Sem.run_bind]; cases s.run P w <;> simp [Result.andThen, pure, Sem.run]
theorem run_u (s : Sem Unit) : (do s; pure Next.skip : Sem Next).run P w = (match s.run P w with | .ok _ w' => .ok .skip w' | .halt h w' => .halt h w') := by
  rw [Sem.run_bind]; cases s.run P w <;> simp [Result.andThen, pure, Sem.run]

theorem run_loadAt1 {t : TypeId} {b o : Nat} (ha : aggOf P t = some false) (h : loadO go w o w.heap[b]?) :
    ∃ v, (Instr.loadAt t (.pointer (some ⟨b, o, none⟩))).run P w = .ok v w ∧ go v w := by
  unfold loadO at h
  split at h
  · rename_i c t' f hb
    unfold loadV at h
    split at h
    · rename_i v hv
      refine ⟨v, ?_, h⟩
      simp [Instr.loadAt, Instr.sureAddr, loadVar, Sem.run_bind, Sem.run, pure, run_isAgg ha, Result.andThen, load_at (P := P) hb hv]
    · exact h.elim
  · exact h.elim

theorem run_loadAtN {t : TypeId} {b o n : Nat} (ha : aggOf P t = some true) (hs : csz P t = some n) (h : loadNO go w o n w.heap[b]?) :
    ∃ v, (Instr.loadAt t (.pointer (some ⟨b, o, none⟩))).run P w = .ok v w ∧ go v w := by
  unfold loadNO at h
  split at h
  · rename_i c t' f hb
    obtain ⟨hn, h⟩ := h
    refine ⟨_, ?_, h⟩
    have := loadCells_at (P := P) (o := o) hb n 0 #[] (by omega)
    simp [Instr.loadAt, Instr.sureAddr, loadVar, Sem.run_bind, Sem.run, pure, run_isAgg ha, run_sizeOf hs, Result.andThen, loadCells, this]
  · exact h.elim

theorem run_storeAt1 {t : TypeId} {b o : Nat} {v : Value} (hs : csz P t = some 1) (h : storeO go w b o v w.heap[b]?) :
    ∃ w', (Instr.storeAt t (.pointer (some ⟨b, o, none⟩)) v).run P w = .ok () w' ∧ go undef w' := by
  unfold storeO at h
  split at h
  · rename_i c t' f hb
    obtain ⟨⟨h1, h2, h3⟩, h⟩ := h
    refine ⟨_, ?_, h⟩
    have hst := store_at (P := P) hb h1 h2 h3
    have hc : v.cells = #[v] := by cases v <;> first | rfl | simp [isPlain] at h3
    simp [Instr.storeAt, Instr.sureAddr, storeVar, Sem.run_bind, Sem.run, pure, run_sizeOf hs, Result.andThen, hc, storeCells, add_off, hst]
  · exact h.elim

theorem run_storeAtN {t : TypeId} {b o n : Nat} {cs : Array Value} (hs : csz P t = some n) (h : storeNO go w b o n cs w.heap[b]?) :
    ∃ w', (Instr.storeAt t (.pointer (some ⟨b, o, none⟩)) (.agg cs)).run P w = .ok () w' ∧ go undef w' := by
  unfold storeNO at h
  split at h
  · rename_i c t' f hb
    obtain ⟨⟨h1, h2, h3, h4⟩, h⟩ := h
    subst h3
    refine ⟨_, ?_, h⟩
    have hst := storeCells_at (P := P) cs.toList (o := o) (i := 0) hb (by simpa [h1] using h2) (by simpa using h4)
    simp only [Instr.storeAt, Instr.sureAddr, storeVar, Sem.run_bind, Sem.run, pure, run_sizeOf hs, Result.andThen, Value.cells, h1, ne_eq, not_true_eq_false, if_false]
    rw [hst]; rfl
  · exact h.elim

end Go.Vc
