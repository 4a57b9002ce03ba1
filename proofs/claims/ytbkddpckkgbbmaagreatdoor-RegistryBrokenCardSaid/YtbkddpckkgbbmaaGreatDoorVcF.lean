import Derived.Test.YtbkddpckkgbbmaaGreatDoorVcE
namespace Go.Vc
open Go

variable {P : Program} {go : Value → World → Prop} {ρ : Env} {ds : List Deferred} {w : World}

theorem evals {n : Nat} {ρ : Env} {ds : List Deferred} {xs : Array Operand} (h : xs.all (inB n) = true) : ∀ x ∈ xs, (mkA n ρ ds).eval x = ev ρ x :=
  fun x hx => mkA_eval n ρ ds x (by rw [Array.all_eq_true_iff_forall_mem] at h; exact h x hx)

theorem map_evals {n : Nat} {ρ : Env} {ds : List Deferred} {xs : Array Operand} (h : ∀ x ∈ xs, (mkA n ρ ds).eval x = ev ρ x) : xs.map (mkA n ρ ds).eval = (xs.toList.map (ev ρ)).toArray := by
  have : xs.map (mkA n ρ ds).eval = xs.map (ev ρ) := Array.map_congr_left h
  rw [this]; apply Array.ext'; simp

theorem run_bin {op : BinOp} {t : TypeId} {x y : Operand} {a b v : Value} (hg : guardOk x y a b = true) (h : (binOp op t a b).run P w = .ok v w) :
    (do eqGuard op t x y a b; binOp op t a b : Sem Value).run P w = .ok v w := by
  rw [Sem.run_bind, run_guard_plain hg]; simpa [Result.andThen] using h

theorem run_not (b : Bool) : (do pure (Value.bool (!b)) : Sem Value).run P w = .ok (.bool (!b)) w := rfl

theorem run_equalIn_nil (dd : Nat) {t : TypeId} {d : TypeDesc} (hd : P.underlying t = some d) {y : Operand} {k : Nat} (hk : nilKind d y = some k) {a : Value} {z : Bool} (ha : nilOf k a = some z) :
    (Op.equalIn (dd + 1) t a (ev ρ y)).run P w = .ok z w := by
  unfold nilKind at hk
  split at hk <;> simp only [reduceCtorEq, Option.some.injEq] at hk <;> subst hk <;> cases a <;> simp only [nilOf, reduceCtorEq, Option.some.injEq] at ha <;> subst ha <;>
    (unfold Op.equalIn; simp only [Sem.run_bind, run_underlying hd, Result.andThen, ev]) <;>
    first
    | rfl
    | (rename_i p; cases p <;> rfl)
    | (rename_i p _ _; cases p <;> rfl)
theorem run_equal_nil {t : TypeId} {d : TypeDesc} (hd : P.underlying t = some d) {y : Operand} {k : Nat} (hk : nilKind d y = some k) {a : Value} {z : Bool} (ha : nilOf k a = some z) :
    (Op.equal t a (ev ρ y)).run P w = .ok z w := run_equalIn_nil 9999 hd hk ha
theorem run_equalIn_bool (dd : Nat) {t : TypeId} (hd : P.underlying t = some .bool) (a b : Bool) : (Op.equalIn (dd + 1) t (.bool a) (.bool b)).run P w = .ok (a == b) w := by
  unfold Op.equalIn; simp only [Sem.run_bind, run_underlying hd, Result.andThen]; rfl
theorem run_equal_bool {t : TypeId} (hd : P.underlying t = some .bool) (a b : Bool) : (Op.equal t (.bool a) (.bool b)).run P w = .ok (a == b) w := run_equalIn_bool 9999 hd a b

theorem run_pnil {t : TypeId} {d : TypeDesc} (hd : P.underlying t = some d) {x y : Operand} {k : Nat} (hk : nilKind d y = some k) {a : Value} {z : Bool} (ha : nilOf k a = some z) (neq : Bool) :
    (do eqGuard (if neq then .neq else .eql) t x y a (ev ρ y); binOp (if neq then .neq else .eql) t a (ev ρ y) : Sem Value).run P w = .ok (.bool (if neq then !z else z)) w := by
  have he := run_equal_nil (ρ := ρ) (w := w) hd hk ha
  have hg : guardOk x y a (ev ρ y) = true := by
    unfold nilKind at hk
    split at hk <;> simp only [reduceCtorEq, Option.some.injEq] at hk <;> subst hk <;> cases a <;> simp [nilOf, guardOk, ev] at ha ⊢
  refine run_bin hg ?_
  unfold nilKind at hk
  cases neq <;> split at hk <;> simp only [reduceCtorEq, Option.some.injEq] at hk <;> subst hk <;> cases a <;> simp only [nilOf, reduceCtorEq, Option.some.injEq] at ha <;>
    (simp only [ev] at he ⊢; simp only [binOp, Sem.run_bind, he, Result.andThen, if_true, if_false, Bool.false_eq_true]; rfl)

theorem sound_compBin {op : BinOp} {t yt : TypeId} {x y : Operand} {n : Nat} {o : Oper} {a b : Value} (ea : a = ev ρ x) (eb : b = ev ρ y)
    (h : insVc P go ρ ds w (compBin P n o op t x y yt)) :
    compBin P n o op t x y yt = .raw n o ∨ ∃ v w', (do eqGuard op t x y a b; binOp op t a b : Sem Value).run P w = .ok v w' ∧ go v w' := by
  subst ea eb
  unfold compBin at h ⊢
  split at h
  · split at h
    · split at h
      · rename_i k' _ _ _
        right
        simp only [insVc, iopK] at h
        split at h
        · rename_i m n hx hy
          obtain ⟨hk, h⟩ := h
          unfold loadV at h
          split at h
          · rename_i v hv
            refine ⟨v, w, ?_, h⟩
            rw [hx, hy]
            exact run_bin rfl (sound_iop hk hv t)
          · exact h.elim
        · exact h.elim
      · left; simp_all
    · left; simp_all
  · right
    simp only [insVc, sopK] at h
    split at h
    · rename_i m n hx hy
      unfold loadV at h
      split at h
      · rename_i v hv
        refine ⟨v, w, ?_, h⟩
        rw [hx, hy]
        exact run_bin rfl (sound_sop hv t)
      · exact h.elim
    · exact h.elim
  · rename_i hd
    split at h
    · right
      simp only [insVc, bopK] at h
      split at h
      · rename_i m n hx hy
        refine ⟨_, w, ?_, h⟩
        rw [hx, hy]
        refine run_bin rfl ?_
        simp only [binOp, Sem.run_bind, run_equal_bool hd, Result.andThen]; rfl
      · exact h.elim
    · right
      simp only [insVc, bopK] at h
      split at h
      · rename_i m n hx hy
        refine ⟨_, w, ?_, h⟩
        rw [hx, hy]
        refine run_bin rfl ?_
        simp only [binOp, Sem.run_bind, run_equal_bool hd, Result.andThen]; cases m <;> cases n <;> rfl
      · exact h.elim
    · left; simp_all
  · rename_i d _ _ _ hd
    split at h
    · rename_i k hk
      right
      simp only [insVc, pnilK] at h
      split at h
      · rename_i z hz
        exact ⟨_, w, run_pnil (ρ := ρ) hd hk hz false, h⟩
      · exact h.elim
    · rename_i k hk
      right
      simp only [insVc, pnilK] at h
      split at h
      · rename_i z hz
        exact ⟨_, w, run_pnil (ρ := ρ) hd hk hz true, h⟩
      · exact h.elim
    · left; simp_all
  · left; simp_all

end Go.Vc
