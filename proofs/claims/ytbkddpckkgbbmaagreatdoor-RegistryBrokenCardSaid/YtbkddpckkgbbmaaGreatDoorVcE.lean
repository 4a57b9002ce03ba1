import Derived.Test.YtbkddpckkgbbmaaGreatDoorVcD
namespace Go.Vc
open Go

variable {P : Program} {go : Value → World → Prop} {ρ : Env} {ds : List Deferred} {w : World}

theorem upon_v {s : Sem Value} {K : Value → World → Prop} (h : ∃ v w', s.run P w = .ok v w' ∧ K v w') : upon P K ((do pure (Next.value (← s)) : Sem Next).run P w) := by
  obtain ⟨v, w', e, k⟩ := h
  rw [run_v, e]; exact k
theorem upon_u {s : Sem Unit} {K : Value → World → Prop} (h : ∃ w', s.run P w = .ok () w' ∧ K undef w') : upon P K ((do s; pure Next.skip : Sem Next).run P w) := by
  obtain ⟨w', e, k⟩ := h
  rw [run_u, e]; exact k

theorem callFunc_ok {f : FuncId} {args : Array Value} (h : okF P f = true) : (callFunc f args).run P w = .ok (.enter f args) w := by
  unfold okF at h
  cases hf : P.funcs[f]? with
  | none => simp [hf] at h
  | some fn =>
    simp only [hf, Bool.and_eq_true, Bool.not_eq_true'] at h
    have hb : fn.body.isNone = false := by cases hh : fn.body <;> simp_all
    have hn : fn.name ≠ "runtime.NumGoroutine" := by simpa using h.1
    have hb' : fn.body ≠ none := by intro e; simp [e] at hb
    simp [callFunc, program, Sem.run_bind, Sem.run, Result.andThen, pure, hf, hn, hb']

theorem sound_iop {op : BinOp} {k k' : IntKind} {m n : Int} (hk : k = k' ∨ op = .shl ∨ op = .shr) {v : Value} (h : iopV k m n op = some v) (t : TypeId) :
    (binOp op t (.int k m) (.int k' n)).run P w = .ok v w := by
  cases op <;> simp only [reduceCtorEq, or_false, false_or, or_true] at hk <;> simp only [iopV] at h <;>
    first
    | (subst hk; simp only [Option.some.injEq] at h; subst h; simp [binOp, Op.intArith, Op.intCmp, Op.intBits, pure, Sem.run])
    | (subst hk; split at h <;> simp only [reduceCtorEq, Option.some.injEq] at h; subst h; rename_i hz; simp [binOp, Op.intDiv, hz, pure, Sem.run])
    | (split at h <;> simp only [reduceCtorEq, Option.some.injEq] at h; subst h; rename_i hz; simp [binOp, Op.shift, hz, pure, Sem.run])

theorem sound_sop {op : BinOp} {a b : ByteArray} {v : Value} (h : sopV a b op = some v) (t : TypeId) : (binOp op t (.string a) (.string b)).run P w = .ok v w := by
  cases op <;> simp only [sopV, reduceCtorEq, Option.some.injEq] at h <;>
    first
    | (subst h; simp [binOp, Op.stringOp, pure, Sem.run])
    | (split at h <;> simp only [reduceCtorEq, Option.some.injEq] at h; subst h; rename_i hz; simp only [binOp, Op.stringOp]; rw [if_neg hz]; rfl)

def guardOk (x y : Operand) : Value → Value → Bool
  | .nilIface, .nilIface => (match x with | .const _ => true | _ => false) || (match y with | .const _ => true | _ => false)
  | .agg _, .agg _ => false
  | _, _ => true

theorem run_guard_plain {op : BinOp} {t : TypeId} {x y : Operand} {a b : Value} (h : guardOk x y a b = true) :
    (eqGuard op t x y a b).run P w = .ok () w := by
  unfold guardOk at h
  cases op <;> first
    | rfl
    | (split at h
       · cases x <;> cases y <;> first | rfl | (simp at h; done)
       · contradiction
       · rename_i h1 h2
         unfold eqGuard
         rw [if_neg (by decide)]
         split
         · exact (h1 rfl rfl).elim
         · exact (h2 _ _ rfl rfl).elim
         · rfl)

theorem sound_ext {i : Nat} {v : Value} (h : extK go w i v) : ∃ x w', (Instr.extract v i).run P w = .ok x w' ∧ go x w' := by
  unfold extK at h
  split at h
  · rename_i vs
    unfold loadV at h
    split at h
    · rename_i x hx; exact ⟨x, w, by simp [Instr.extract, hx, pure, Sem.run], h⟩
    · exact h.elim
  · exact h.elim

theorem run_asIntOf (k : IntKind) (i : Int) : (asIntOf (.int k i)).run P w = .ok (k, i) w := rfl
theorem run_bound {k : IntKind} {i : Int} {y : Nat} {c : BoundsCode} (h0 : 0 ≤ i) (h1 : i ≤ y) : (Instr.sliceBound (.int k i) y c).run P w = .ok i.toNat w := by
  simp [Instr.sliceBound, Sem.run_bind, run_asIntOf, Result.andThen, h0, h1, pure, Sem.run]

/-- the bounds of a slice expression. -/
theorem run_bounds {b : Bool} {len cap : Nat} {lo hi : Option Value} {l h : Int} (el : boundOf 0 lo = some l) (eh : boundOf len hi = some h) (h0 : 0 ≤ l) (h1 : l ≤ h) (h2 : h ≤ cap) :
    (Instr.sliceBounds b len cap lo hi none).run P w = .ok (l.toNat, h.toNat, cap) w := by
  have e1 : ∀ (w : World), ((match hi with | some v => Instr.sliceBound v cap (if b then .sliceAcap else .sliceAlen) | none => pure len) : Sem Nat).run P w = .ok h.toNat w := by
    intro w
    cases hi with
    | none => simp only [boundOf, Option.some.injEq] at eh; subst eh; simp [pure, Sem.run]
    | some v =>
      cases v <;> simp only [boundOf, reduceCtorEq, Option.some.injEq] at eh
      subst eh
      exact run_bound (by omega) h2
  have e2 : ∀ (w : World), ((match lo with | some v => Instr.sliceBound v h.toNat .sliceB | none => pure 0) : Sem Nat).run P w = .ok l.toNat w := by
    intro w
    cases lo with
    | none => simp only [boundOf, Option.some.injEq] at el; subst el; simp [pure, Sem.run]
    | some v =>
      cases v <;> simp only [boundOf, reduceCtorEq, Option.some.injEq] at el
      subst el
      exact run_bound h0 (by omega)
  cases hi with
  | none =>
    have e1' := e1 w
    have e2' := e2 w
    cases lo with
    | none => simp [Instr.sliceBounds, Sem.run_bind, pure, Sem.run, Result.andThen] at e1' e2' ⊢; omega
    | some v => simp [Instr.sliceBounds, Sem.run_bind, pure, Sem.run, Result.andThen] at e1' e2' ⊢; rw [e1']; simp [e2', Sem.run]
  | some u =>
    have e1' := e1 w
    have e2' := e2 w
    cases lo with
    | none => simp [Instr.sliceBounds, Sem.run_bind, pure, Sem.run, Result.andThen] at e1' e2' ⊢; rw [e1']; simp [e2', Sem.run]
    | some v => simp [Instr.sliceBounds, Sem.run_bind, pure, Sem.run, Result.andThen] at e1' e2' ⊢; rw [e1']; simp [e2', Sem.run]

end Go.Vc
