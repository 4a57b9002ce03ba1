import Derived.Test.YtbkddpckkgbbmaaGreatDoorVcH
namespace Go.Vc
open Go

variable {P : Program} {ro : Option Nat} {n : Nat}

/-! ### a function's results -/

inductive RV where
  | tmp (t : Nat)
  | c1 (a : Nat)
  | cN (a n : Nat)
  | bad

def compRV (P : Program) (n : Nat) : ResultVar → RV
  | .tmp t => if t < n then .tmp t else .bad
  | .cell a t => if a < n then (match csz P t, aggOf P t with | some s, some g => if g then .cN a s else .c1 a | _, _ => .bad) else .bad

def resO (k : Value → Prop) (o : Nat) : Option Obj → Prop
  | some (.cells c _ _) => (match c[o]? with | some v => k v | none => False)
  | _ => False
def resNO (k : Value → Prop) (o n : Nat) : Option Obj → Prop
  | some (.cells c _ _) => o + n ≤ c.size ∧ k (.agg (c.extract o (o + n)))
  | _ => False
def res1 (k : Value → Prop) (w : World) : Value → Prop
  | .pointer (some ⟨b, o, none⟩) => resO k o w.heap[b]?
  | _ => False
def resN (k : Value → Prop) (w : World) (n : Nat) : Value → Prop
  | .pointer (some ⟨b, o, none⟩) => resNO k o n w.heap[b]?
  | _ => False
def packed : List Value → Value
  | [v] => v
  | l => .tuple l.toArray
def resK (K : Value → World → Prop) (ρ : Env) (w : World) : List RV → List Value → Prop
  | [], acc => K (packed acc) w
  | .tmp t :: l, acc => resK K ρ w l (acc ++ [ρ t])
  | .c1 a :: l, acc => res1 (fun v => resK K ρ w l (acc ++ [v])) w (ρ a)
  | .cN a n :: l, acc => resN (fun v => resK K ρ w l (acc ++ [v])) w n (ρ a)
  | .bad :: _, _ => False

/-- the marks of ranges over functions are taken off; then the results. -/
def markO (P : Program) (K : World → Prop) (w : World) (r : Nat) : Option Obj → Prop
  | some (.deferred (some [])) => K (set w r (.deferred none))
  | _ => False
def endK (P : Program) (res : List RV) (K : Value → World → Prop) (ρ : Env) : List Deferred → World → Prop
  | [], w => resK K ρ w res []
  | d :: ds, w => match d.target with
    | .collected r => markO P (endK P res K ρ ds) w r w.heap[r]?
    | _ => False
def endQ (P : Program) (res : List RV) (K : Value → World → Prop) : QT
  | .normal, ρ, ds, w => endK P res K ρ ds w
  | .ret, ρ, ds, w => endK P res K ρ ds w
  | _, _, _, _ => False

def initE (args : List Value) : Env := fun t => (args[t]?).getD undef

theorem init_tm (args : List Value) (n : Nat) (h : args.length ≤ n) : args.toArray ++ Array.replicate (n - args.toArray.size) undef = tm n (initE args) := by
  apply Array.ext
  · simp [tm]; omega
  · intro i h1 h2
    have hi : i < n := by simpa [tm] using h2
    simp only [tm, Array.getElem_map, Array.getElem_range, initE]
    by_cases hl : i < args.length
    · rw [Array.getElem_append_left (by simpa using hl)]
      simp [hl]
    · rw [Array.getElem_append_right (by simpa using Nat.le_of_not_lt hl)]
      simp [List.getElem?_eq_none (Nat.le_of_not_lt hl)]

def readRV (tmps : Array Value) : ResultVar → Sem Value
  | .tmp t => pure (tmps.getD t undef)
  | .cell a t => do loadVar t (← asAddr (tmps.getD a undef))

theorem mapM_cons' {f : ResultVar → Sem Value} {x : ResultVar} {rs : List ResultVar} {v : Value} {vs : List Value} {w : World} (h1 : (f x).run P w = .ok v w) (h2 : (rs.mapM f).run P w = .ok vs w) :
    ((x :: rs).mapM f).run P w = .ok (v :: vs) w := by
  rw [List.mapM_cons, Sem.run_bind, h1]
  simp only [Result.andThen]
  rw [Sem.run_bind, h2]; rfl

theorem run_resvar {ρ : Env} {w : World} {K : Value → World → Prop} : ∀ (rs : List ResultVar) (acc : List Value), resK K ρ w (rs.map (compRV P n)) acc →
    ∃ vs, (rs.mapM (readRV (tm n ρ))).run P w = .ok vs w ∧ K (packed (acc ++ vs)) w := by
  intro rs
  induction rs with
  | nil => intro acc h; exact ⟨[], rfl, by simpa [resK] using h⟩
  | cons x rs ih =>
    intro acc h
    cases x with
    | tmp t =>
      simp only [List.map_cons, compRV] at h
      split at h
      · rename_i ht
        simp only [resK] at h
        obtain ⟨vs, e, k⟩ := ih _ h
        refine ⟨ρ t :: vs, mapM_cons' ?_ e, by simpa using k⟩
        simp only [readRV, tm_getD _ _ _ ht]; rfl
      · simp [resK] at h
    | cell a t =>
      simp only [List.map_cons, compRV] at h
      split at h
      · rename_i ht
        split at h
        · rename_i s g hs hg
          cases g with
          | true =>
            simp only [if_true, resK, resN] at h
            split at h
            · rename_i b o ha
              unfold resNO at h
              split at h
              · rename_i c t' f hb
                obtain ⟨hn, h⟩ := h
                obtain ⟨vs, e, k⟩ := ih _ h
                refine ⟨.agg (c.extract o (o + s)) :: vs, mapM_cons' ?_ e, by simpa using k⟩
                have hl := loadCells_at (P := P) (o := o) hb s 0 #[] (by omega)
                simp only [readRV, tm_getD _ _ _ ht, ha, asAddr]
                simp [loadVar, Sem.run_bind, run_isAgg hg, run_sizeOf hs, Result.andThen, loadCells, hl, pure, Sem.run]
              · exact h.elim
            · exact h.elim
          | false =>
            simp only [Bool.false_eq_true, if_false, resK, res1] at h
            split at h
            · rename_i b o ha
              unfold resO at h
              split at h
              · rename_i c t' f hb
                split at h
                · rename_i v hv'
                  obtain ⟨vs, e, k⟩ := ih _ h
                  refine ⟨v :: vs, mapM_cons' ?_ e, by simpa using k⟩
                  simp only [readRV, tm_getD _ _ _ ht, ha, asAddr]
                  simp [loadVar, Sem.run_bind, run_isAgg hg, Result.andThen, load_at (P := P) hb hv', pure, Sem.run]
                · exact h.elim
              · exact h.elim
            · exact h.elim
        · simp [resK] at h
      · simp [resK] at h

theorem run_results {fn : Func} {ρ : Env} {w : World} {K : Value → World → Prop} (h : resK K ρ w (fn.results.toList.map (compRV P n)) []) :
    ∃ v, (results fn (tm n ρ)).run P w = .ok v w ∧ K v w := by
  obtain ⟨vs, e, k⟩ := run_resvar _ _ h
  simp only [List.nil_append] at k
  refine ⟨packed vs, ?_, k⟩
  have e1 : results fn (tm n ρ) = (do let vs ← fn.results.mapM (readRV (tm n ρ)); pure (if h : vs.size = 1 then vs[0] else .tuple vs)) := by
    unfold results
    congr 1
  rw [e1, Array.mapM_eq_mapM_toList, Sem.run_bind]
  have e2 : (List.toArray <$> (fn.results.toList.mapM (readRV (tm n ρ)))).run P w = .ok vs.toArray w := by
    change Sem.run P (_ >>= (pure ∘ List.toArray)) w = _
    rw [Sem.run_bind, e]; rfl
  rw [e2]
  simp only [Result.andThen, pure, Sem.run]
  congr 1
  match vs with
  | [] => rfl
  | [v] => rfl
  | v :: u :: l => simp [packed]

theorem leaves_of_endK {fn : Func} {res : List RV} (hres : fn.results.toList.map (compRV P n) = res) {K : Value → World → Prop} {ρ : Env} : ∀ (ds : List Deferred) (w : World), endK P res K ρ ds w →
    LeavesInM Fence.wide 0 P fn (tm n ρ) (fun e w' => ∃ v, e = .returned v ∧ K v w') ds .returning w := by
  intro ds
  induction ds with
  | nil =>
    intro w h
    subst hres
    obtain ⟨v, e, k⟩ := run_results h
    exact ⟨v, e, v, rfl, k⟩
  | cons d ds ih =>
    intro w h
    unfold endK at h
    split at h
    · rename_i r hr
      unfold markO at h
      split at h
      · rename_i hk
        refine ⟨by simp, .inl ⟨r, _, hr, ?_, ih _ h⟩⟩
        simp [Instr.takeDeferred, getObj, setObj, Sem.run_bind, Sem.run, Result.andThen, hk, pure, set]
      · exact h.elim
    · exact h.elim

/-- ████ A FUNCTION's CONTRACT OUT OF ITS CONDITIONS. ████ -/
theorem ok_of_vc {f : FuncId} {fn : Func} {code : Code} {cc : CC} {res : List RV} {args : List Value} {w : World} {K : Value → World → Prop}
    (hf : P.funcs[f]? = some fn) (hb : fn.body = some code) (hn : fn.ntmps = n) (hok : okF P f = true) (hc : comp P n code = cc) (hres : fn.results.toList.map (compRV P n) = res) (hl : args.length ≤ n)
    (h : vc P none n cc (endQ P res K) (initE args) [] w) : Ok P f args.toArray w K := by
  refine ⟨hok, ?_⟩
  subst hc hn
  refine callsIn_of_wp_marks hf hb trivial ?_ rfl
  rw [init_tm _ _ hl]
  have := vc_sound (P := P) (ro := none) code _ _ _ _ h
  refine wpIn_mono this ?_
  rintro e _ w' ⟨ρ, ds, rfl, q⟩
  cases e with
  | normal => exact leaves_of_endK hres ds w' q
  | ret => exact leaves_of_endK hres ds w' q
  | _ => exact q.elim

/-! ### equations for the walk (not by definition, for simp: the kernel would unfold whole regions) -/

theorem nr {α : Sort _} {a b : α} (h : a = b) : a = b := h

section
variable {Q : QT} {ρ : Env} {ds : List Deferred} {w : World} {K : Env → List Deferred → World → Prop} {l : List In} {d : Option Nat} {i : Ins}

theorem vc_skip : vc P ro n .skip Q ρ ds w = Q .normal ρ ds w := nr rfl
theorem vc_seq {a b : CC} : vc P ro n (.seq a b) Q ρ ds w = vc P ro n a (thenQ (vc P ro n b Q) Q) ρ ds w := nr rfl
theorem vc_cond {c : Operand} {a b : CC} : vc P ro n (.cond c a b) Q ρ ds w = condP (vc P ro n a Q) (vc P ro n b Q) ρ ds w (ev ρ c) := nr rfl
theorem vc_block {id : Nat} {b : CC} : vc P ro n (.block id b) Q ρ ds w = vc P ro n b (blockQ id Q) ρ ds w := nr rfl
theorem vc_exit {id : Nat} : vc P ro n (.exit id) Q ρ ds w = Q (.exit id) ρ ds w := nr rfl
theorem vc_ret : vc P ro n .ret Q ρ ds w = Q .ret ρ ds w := nr rfl
theorem vc_ops : vc P ro n (.ops l) Q ρ ds w = vcOps P l (Q .normal) ρ ds w := nr rfl
theorem vcOps_nil : vcOps P [] K ρ ds w = K ρ ds w := nr rfl
theorem vcOps_cons : vcOps P (⟨none, d, i⟩ :: l) K ρ ds w = insVc P (goL P l K ρ d ds) ρ ds w i := nr rfl
theorem vcOps_gate {s : Nat} {want : Bool} : vcOps P (⟨some (s, want), d, i⟩ :: l) K ρ ds w = gateK P i l K ρ d ds w (gate (ρ s) want) := by
  simp only [vcOps]; cases gate (ρ s) want <;> rfl
theorem gateK_true : gateK P i l K ρ d ds w true = insVc P (goL P l K ρ d ds) ρ ds w i := nr rfl
theorem gateK_false : gateK P i l K ρ d ds w false = vcOps P l K (updO ρ d undef) ds w := nr rfl
theorem gate_true (t : Bool) : gate (.bool t) true = t := by simp [gate]
theorem gate_false (t : Bool) : gate (.bool t) false = !t := by cases t <;> rfl
theorem gate_undef (want : Bool) : gate undef want = false := nr rfl
theorem goL_apply {v : Value} : goL P l K ρ d ds v w = vcOps P l K (updO ρ d v) ds w := nr rfl
theorem thenQ_normal {N : Env → List Deferred → World → Prop} : thenQ N Q .normal ρ ds w = N ρ ds w := nr rfl
theorem thenQ_ret {N : Env → List Deferred → World → Prop} : thenQ N Q .ret ρ ds w = Q .ret ρ ds w := nr rfl
theorem thenQ_exit {N : Env → List Deferred → World → Prop} {id : Nat} : thenQ N Q (.exit id) ρ ds w = Q (.exit id) ρ ds w := nr rfl
theorem blockQ_normal {id : Nat} : blockQ id Q .normal ρ ds w = Q .normal ρ ds w := nr rfl
theorem blockQ_ret {id : Nat} : blockQ id Q .ret ρ ds w = Q .ret ρ ds w := nr rfl
theorem blockQ_same {id : Nat} : blockQ id Q (.exit id) ρ ds w = Q .normal ρ ds w := by simp [blockQ]
theorem blockQ_exit {id j : Nat} (h : j ≠ id) : blockQ id Q (.exit j) ρ ds w = Q (.exit j) ρ ds w := by simp [blockQ, h]
theorem condP_true {A B : Env → List Deferred → World → Prop} : condP A B ρ ds w (.bool true) = A ρ ds w := nr rfl
theorem condP_false {A B : Env → List Deferred → World → Prop} : condP A B ρ ds w (.bool false) = B ρ ds w := nr rfl
theorem condP_split {A B : Env → List Deferred → World → Prop} {t : Bool} (h1 : t = true → A ρ ds w) (h2 : t = false → B ρ ds w) : condP A B ρ ds w (.bool t) := by
  cases t
  · exact h2 rfl
  · exact h1 rfl
theorem gateK_split {t : Bool} (h1 : t = true → insVc P (goL P l K ρ d ds) ρ ds w i) (h2 : t = false → vcOps P l K (updO ρ d undef) ds w) : gateK P i l K ρ d ds w t := by
  cases t
  · exact h2 rfl
  · exact h1 rfl
theorem upd_same {a : Nat} {v : Value} : upd ρ a v a = v := by simp [upd]
theorem upd_other {a b : Nat} {v : Value} (h : b ≠ a) : upd ρ a v b = ρ b := by simp [upd, h]
theorem updO_some {a : Nat} {v : Value} : updO ρ (some a) v = upd ρ a v := nr rfl
theorem updO_none {v : Value} : updO ρ none v = ρ := nr rfl
theorem ev_tmp {t : Nat} : ev ρ (.tmp t) = ρ t := nr rfl
theorem ev_const {v : Value} : ev ρ (.const v) = v := nr rfl
theorem ev_global {g : Nat} : ev ρ (.global g) = .pointer (some ⟨g, 0, none⟩) := nr rfl
theorem ev_func {f : Nat} : ev ρ (.func f) = .func (.func f) #[] #[] := nr rfl
theorem endQ_ret {res : List RV} {K : Value → World → Prop} : endQ P res K .ret ρ ds w = endK P res K ρ ds w := nr rfl
theorem endQ_normal {res : List RV} {K : Value → World → Prop} : endQ P res K .normal ρ ds w = endK P res K ρ ds w := nr rfl
theorem initE_at {args : List Value} {t : Nat} : initE args t = (args[t]?).getD undef := nr rfl
end

end Go.Vc

namespace Go.Vc
open Go
def bodyOf (fn : Func) : Code := fn.body.getD .skip
def sub : Code → List Nat → Code
  | .seq a _, 0 :: p => sub a p
  | .seq _ b, 1 :: p => sub b p
  | .cond _ a _, 0 :: p => sub a p
  | .cond _ _ b, 1 :: p => sub b p
  | .block _ a, 0 :: p => sub a p
  | .loop a, 0 :: p => sub a p
  | .rangeFunc _ _ a _, 0 :: p => sub a p
  | .rangeFunc _ _ _ b, 1 :: p => sub b p
  | c, _ => c
def opsOf : Code → Array Oper
  | .region _ ops _ => ops
  | _ => #[]
end Go.Vc

namespace Go.Vc
open Go
/-- function f, resolved. -/
def FnOk (P : Program) (f n : Nat) (cc : CC) (rs : List RV) : Prop :=
  ∃ fn, P.funcs[f]? = some fn ∧ fn.body = some (bodyOf fn) ∧ fn.ntmps = n ∧ okF P f = true ∧ comp P n (bodyOf fn) = cc ∧ fn.results.toList.map (compRV P n) = rs
theorem FnOk.enter {P : Program} {f n : Nat} {cc : CC} {rs : List RV} (h : FnOk P f n cc rs) {args : List Value} {w : World} {K : Value → World → Prop} (hl : args.length ≤ n)
    (hv : vc P none n cc (endQ P rs K) (initE args) [] w) : Ok P f args.toArray w K := by
  obtain ⟨fn, h1, h2, h3, h4, h5, h6⟩ := h
  exact ok_of_vc h1 h2 h3 h4 h5 h6 hl hv
end Go.Vc
