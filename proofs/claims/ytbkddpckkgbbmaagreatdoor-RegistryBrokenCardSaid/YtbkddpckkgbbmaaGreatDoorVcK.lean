import Derived.Test.YtbkddpckkgbbmaaGreatDoorVcJ
namespace Go.Vc
open Go

variable {P : Program} {ro : Option Nat} {n : Nat}

/-! ### ranges over functions -/

def updMany (ρ : Env) : List Nat → List Value → Env
  | t :: ts, v :: vs => updMany (upd ρ t v) ts vs
  | _, _ => ρ

theorem tm_many (n : Nat) : ∀ (ts : List Nat) (vs : List Value) (ρ : Env), (ts.zip vs).foldl (fun tmps (t, a) => tmps.setIfInBounds t a) (tm n ρ) = tm n (updMany ρ ts vs) := by
  intro ts
  induction ts with
  | nil => intro vs ρ; rfl
  | cons t ts ih =>
    intro vs ρ
    cases vs with
    | nil => rfl
    | cons v vs => simp only [List.zip_cons_cons, List.foldl_cons, tm_set, updMany]; exact ih vs _

/-- the loop's record. -/
def LoopAt (w : World) (l n : Nat) (ρ : Env) (params : Array Tmp) (asg body : Code) (st : LoopState) (pend : Option Code) : Prop :=
  ∃ fn D, w.heap[l]? = some (.loop { state := st, pending := pend, fn, tmps := tm n ρ, params, assign := asg, body, defers := D })

theorem LoopAt.of_eq {w w' : World} {l : Nat} {ρ : Env} {params : Array Tmp} {asg body : Code} {st : LoopState} {pend : Option Code} (h : LoopAt w l n ρ params asg body st pend) (e : w'.heap[l]? = w.heap[l]?) :
    LoopAt w' l n ρ params asg body st pend := by obtain ⟨fn, D, x⟩ := h; exact ⟨fn, D, e.trans x⟩

/-- how a round's body is left. -/
def exitOf : Code → Exit
  | .ret => .ret
  | .exit id => .exit id
  | _ => .normal

/-- one round, as the iterator sees it. -/
theorem yield_rule {l : Nat} {ρ : Env} {params : Array Tmp} {asg body : Code} {args : List Value} {w : World} {K : Value → World → Prop}
    (hL : LoopAt w l n ρ params asg body .ready none) (hlen : args.length = params.size)
    (h : asg.wpIn (FW (some l)) 0 P (lift n fun e ρ1 ds1 w1 => e = .normal ∧ ds1 = [] ∧ w1.heap[l]? = w.heap[l]? ∧
      ∀ w2, Mod (fun k => k = l) w1 w2 → body.wpIn (FW (some l)) 0 P (lift n fun e _ _ w3 => w3.heap[l]? = w2.heap[l]? ∧
        ((e = .normal ∧ ∀ w4, Mod (fun k => k = l) w3 w4 → LoopAt w4 l n ρ params asg body .ready none → K (.bool true) w4) ∨
         (∃ c, (c = .ret ∧ e = .ret ∨ ∃ id, c = .exit id ∧ e = .exit id) ∧ ∀ w4, Mod (fun k => k = l) w3 w4 → LoopAt w4 l n ρ params asg body .done (some c) → K (.bool false) w4))) (mkA n ρ1 []) w2) (mkA n (updMany ρ params.toList args) []) w) :
    YieldK P K l args w := by
  obtain ⟨fn, D, hl⟩ := hL
  have hy : (Instr.yield l args.toArray).run P w = .ok (.round l fn (tm n (updMany ρ params.toList args)) asg body) w := by
    have e : (params.zip args.toArray).foldl (fun tmps (t, a) => tmps.setIfInBounds t a) (tm n ρ) = tm n (updMany ρ params.toList args) := by
      rw [← tm_many, ← Array.foldl_toList]; simp
    simp only [Instr.yield, Instr.getLoop, getObj, Sem.run_bind, Sem.run, hl, Result.andThen, pure]
    rw [if_neg (by simp [hlen])]
    simp only [Sem.run]
    rw [← e]
  unfold YieldK
  rw [hy]
  show RoundIn Fence.wide 0 P l fn _ asg body w _
  refine roundIn_of_wpIn (F := Fence.wide) trivial ?_
  refine wpIn_mono h ?_
  rintro e _ w1 ⟨ρ1, ds1, rfl, rfl, rfl, hk, hb⟩
  have hl1 : w1.heap[l]? = some (.loop { state := .ready, pending := none, fn, tmps := tm n ρ, params, assign := asg, body, defers := D }) := hk.trans hl
  have hb1 := lt_of_get hl1
  let L : Loop := { state := .ready, pending := none, fn, tmps := tm n ρ, params, assign := asg, body, defers := D }
  let w2 := set w1 l (.loop { L with state := .busy })
  have h2 := hb w2 ((Mod.refl _ _).set (.inr rfl))
  have hl2 : w2.heap[l]? = some (.loop { L with state := .busy }) := get_set_same _ _ _ hb1
  refine ⟨w2, ?_, ?_⟩
  · simp [Instr.beginRound, Instr.getLoop, getObj, setObj, Sem.run_bind, Sem.run, hl1, Result.andThen, pure, w2, L, set]
  · refine wpIn_mono h2 ?_
    rintro e _ w3 ⟨ρ3, ds3, rfl, hk3, hq⟩
    have hl3 : w3.heap[l]? = some (.loop { L with state := .busy }) := hk3.trans hl2
    have hb3 := lt_of_get hl3
    have hend : ∀ j : Option Code, (Instr.endRound l j).run P w3 = .ok (.bool j.isNone) (set w3 l (.loop { L with state := if j.isNone then .ready else .done, pending := j })) := by
      intro j
      simp [Instr.endRound, Instr.getLoop, getObj, setObj, Sem.run_bind, Sem.run, hl3, Result.andThen, pure, L, set]
    rcases hq with ⟨rfl, hK⟩ | ⟨c, hc, hK⟩
    · exact ⟨_, _, hend none, _, rfl, hK _ ((Mod.refl _ _).set (.inr rfl)) ⟨fn, D, get_set_same _ _ _ hb3⟩⟩
    · have := hK _ ((Mod.refl _ _).set (.inr rfl)) ⟨fn, D, get_set_same (o := .loop { L with state := .done, pending := some c }) _ _ hb3⟩
      rcases hc with ⟨rfl, rfl⟩ | ⟨id, rfl, rfl⟩
      · exact ⟨_, _, hend (some .ret), _, rfl, this⟩
      · exact ⟨_, _, hend (some (.exit id)), _, rfl, this⟩

/-- what an iterator may change of its own: blocks that it made. J speaks of the world beside them. -/
def Stab (J : (Nat → Prop) → World → Prop) : Prop :=
  ∀ (X X' : Nat → Prop) (a b : World), J X a → Mod X a b → (∀ k, X' k → X k ∨ a.heap.size ≤ k ∧ k < b.heap.size) → J X' b

/-- ████ AN ITERATOR: over whatever it hands its rows to. ████ -/
def IterP (P : Program) (gf : FuncId) (cap : List Value) (xs : List (List Value)) (Facts : World → Prop) : Prop :=
  ∀ (y : Value) (_ : ∃ f a b, y = .func f a b) (J : Nat → (Nat → Prop) → World → Prop) (Jx : (Nat → Prop) → World → Prop) (w : World), J 0 (fun _ => False) w →
    (∀ i X w, J i X w → Facts w) → (∀ i, Stab (J i)) → Stab Jx →
    (∀ i (_ : i < xs.length) (X : Nat → Prop) a, J i X a → (∀ k, X k → w.heap.size ≤ k ∧ k < a.heap.size) → w.heap.size ≤ a.heap.size →
      callvK P (fun v b => (a.heap.size ≤ b.heap.size ∧ ∀ k, X k → b.heap[k]? = a.heap[k]?) ∧ ((v = .bool true ∧ J (i + 1) X b) ∨ (v = .bool false ∧ Jx X b))) a (xs[i]?.getD []) y) →
    Ok P gf (y :: cap).toArray w (fun _ b => w.heap.size ≤ b.heap.size ∧ ∃ X : Nat → Prop, (∀ k, X k → w.heap.size ≤ k ∧ k < b.heap.size) ∧ (J xs.length X b ∨ Jx X b))

/-- the mark that an outermost loop leaves among the deferred calls. -/
abbrev markD (D : Nat) : Deferred := { target := .collected D, args := #[] }

/-- what stands at the end of a range. -/
def AtEnd (w w' : World) (X : Nat → Prop) : Prop :=
  w'.heap[w.heap.size]? = some (.deferred (some [])) ∧ w.heap.size + 2 ≤ w'.heap.size ∧ ∀ k, X k → w.heap.size ≤ k ∧ k < w'.heap.size

/-- ████ 'for .. := range g { .. }', outermost. ████ -/
theorem range_iter {f : Operand} {params : Array Tmp} {asg body : Code} {casg cbody : CC} {Q : QT} {ρ : Env} {ds : List Deferred} {w : World}
    (hca : comp P n asg = casg) (hcb : comp P n body = cbody) (hfb : inB n f = true)
    {gf : FuncId} {cap : List Value} (hf : ev ρ f = .func (.func gf) #[] cap.toArray) {xs : List (List Value)} {Facts : World → Prop} (it : IterP P gf cap xs Facts)
    (I : Nat → (Nat → Prop) → World → Prop) (Ix : Code → (Nat → Prop) → World → Prop)
    (h0 : ∀ X w', Mod (fun _ => False) w w' → w'.heap.size = w.heap.size + 2 → (∀ k, X k → k = w.heap.size ∨ k = w.heap.size + 1) → I 0 X w')
    (hF : ∀ i X w', I i X w' → Facts w')
    (stab : ∀ i X X' a b, I i X a → (∀ k, X k → w.heap.size ≤ k) → w.heap.size ≤ a.heap.size → Mod X a b → (∀ k, X' k → X k ∨ a.heap.size ≤ k ∧ k < b.heap.size) → I i X' b)
    (stabx : ∀ c X X' a b, Ix c X a → (∀ k, X k → w.heap.size ≤ k) → w.heap.size ≤ a.heap.size → Mod X a b → (∀ k, X' k → X k ∨ a.heap.size ≤ k ∧ k < b.heap.size) → Ix c X' b)
    (hlen : ∀ i (_ : i < xs.length), (xs[i]?.getD []).length = params.size)
    (round : ∀ i (_ : i < xs.length) (X : Nat → Prop) a, I i X a → (∀ k, X k → w.heap.size ≤ k ∧ k < a.heap.size) → w.heap.size + 2 ≤ a.heap.size → 
      vc P (some (w.heap.size + 1)) n casg (fun e ρ1 ds1 b => e = .normal ∧ ds1 = [] ∧ Mod (fun _ => False) a b ∧ ∀ c, Mod X b c → I i X c →
        vc P (some (w.heap.size + 1)) n cbody (fun e _ _ d => (c.heap.size ≤ d.heap.size ∧ ∀ k, X k → d.heap[k]? = c.heap[k]?) ∧
          ((e = .normal ∧ I (i + 1) X d) ∨ ∃ cc, (cc = .ret ∧ e = .ret ∨ ∃ id, cc = .exit id ∧ e = .exit id) ∧ Ix cc X d)) ρ1 [] c) (updMany ρ params.toList (xs[i]?.getD [])) [] a)
    (done : ∀ X w', I xs.length X w' → AtEnd w w' X → Q .normal ρ (markD w.heap.size :: ds) w')
    (stop : ∀ c X w', Ix c X w' → AtEnd w w' X → Q (exitOf c) ρ (markD w.heap.size :: ds) w') :
    vc P none n (.range f params asg body casg cbody) Q ρ ds w := by
  subst hca hcb
  have hfE := mkA_eval n ρ ds f hfb
  show (Code.rangeFunc f params asg body).wpIn Fence.wide 0 P (lift n Q) (mkA n ρ ds) w
  refine wpIn_rangeFunc (F := Fence.wide) fun fn _ => ?_
  let D := w.heap.size
  let L : Loop := { state := .ready, pending := none, fn, tmps := tm n ρ, params, assign := asg, body, defers := D }
  let w0 := w.alloc (.deferred (some []))
  let w1 := w0.alloc (.loop L)
  have hw0s : w0.heap.size = D + 1 := size_alloc _ _
  have hw1s : w1.heap.size = D + 2 := by show (w0.alloc _).heap.size = _; rw [size_alloc, hw0s]
  have hD1 : w1.heap[D]? = some (.deferred (some [])) := by
    show (w0.alloc _).heap[D]? = _
    rw [get_alloc_old _ _ _ (by rw [hw0s]; omega)]
    exact get_alloc_new _ _
  have hL1 : w1.heap[D + 1]? = some (.loop L) := get_alloc_new' _ _ _ hw0s.symm
  have hm1 : Mod (fun _ => False) w w1 := ((Mod.refl _ _).alloc _).alloc _
  let y : Value := .func (.yield (D + 1)) #[] #[]
  let XD : (Nat → Prop) → Nat → Prop := fun X k => k = D ∨ k = D + 1 ∨ X k
  let J : Nat → (Nat → Prop) → World → Prop := fun i X w' => I i (XD X) w' ∧ w'.heap[D]? = some (.deferred (some [])) ∧ LoopAt w' (D + 1) n ρ params asg body .ready none ∧ D + 2 ≤ w'.heap.size ∧ ∀ k, X k → D + 2 ≤ k
  let Jx : (Nat → Prop) → World → Prop := fun X w' => ∃ c, (c = .ret ∨ ∃ id, c = .exit id) ∧ Ix c (XD X) w' ∧ w'.heap[D]? = some (.deferred (some [])) ∧ LoopAt w' (D + 1) n ρ params asg body .done (some c) ∧ D + 2 ≤ w'.heap.size ∧ ∀ k, X k → D + 2 ≤ k
  have hXD : ∀ X : Nat → Prop, (∀ k, X k → D + 2 ≤ k) → ∀ k, XD X k → w.heap.size ≤ k := by
    rintro X hX k (rfl | rfl | h)
    · exact Nat.le_refl _
    · show D ≤ D + 1; omega
    · have := hX k h; show D ≤ k; omega
  have hXX : ∀ (X X' : Nat → Prop) (a b : World), (∀ k, X' k → X k ∨ a.heap.size ≤ k ∧ k < b.heap.size) → ∀ k, XD X' k → XD X k ∨ a.heap.size ≤ k ∧ k < b.heap.size := by
    rintro X X' a b h k (rfl | rfl | hk)
    · exact .inl (.inl rfl)
    · exact .inl (.inr (.inl rfl))
    · exact (h k hk).elim (fun x => .inl (.inr (.inr x))) .inr
  have hX2 : ∀ (X X' : Nat → Prop) (a b : World), (∀ k, X k → D + 2 ≤ k) → D + 2 ≤ a.heap.size → (∀ k, X' k → X k ∨ a.heap.size ≤ k ∧ k < b.heap.size) → ∀ k, X' k → D + 2 ≤ k := by
    intro X X' a b hX ha h k hk
    rcases h k hk with h | h
    · exact hX k h
    · omega
  have hcall : Ok P gf (y :: cap).toArray w1 (fun _ b => w1.heap.size ≤ b.heap.size ∧ ∃ X : Nat → Prop, (∀ k, X k → w1.heap.size ≤ k ∧ k < b.heap.size) ∧ (J xs.length X b ∨ Jx X b)) := by
    refine it y ⟨_, _, _, rfl⟩ J Jx w1 ⟨h0 _ _ hm1 hw1s ?_, hD1, ⟨fn, D, hL1⟩, by rw [hw1s]; exact Nat.le_refl _, fun _ x => x.elim⟩ (fun i X w' h => hF i _ w' h.1) ?_ ?_ ?_
    · rintro k (rfl | rfl | h)
      · exact .inl rfl
      · exact .inr rfl
      · exact h.elim
    · rintro i X X' a b ⟨h1, h2, h3, h4, h5⟩ hm hx
      have hn0 : ¬ X D := fun x => by have := h5 _ x; omega
      have hn1 : ¬ X (D + 1) := fun x => by have := h5 _ x; omega
      refine ⟨stab i (XD X) (XD X') a b h1 (hXD X h5) (by show D ≤ _; omega) (hm.mono fun _ _ x => .inr (.inr x)) (hXX X X' a b hx), (hm.get _ (by omega) hn0).trans h2, h3.of_eq (hm.get _ (by omega) hn1), Nat.le_trans h4 hm.size, hX2 X X' a b h5 h4 hx⟩
    · rintro X X' a b ⟨c, hc, h1, h2, h3, h4, h5⟩ hm hx
      have hn0 : ¬ X D := fun x => by have := h5 _ x; omega
      have hn1 : ¬ X (D + 1) := fun x => by have := h5 _ x; omega
      refine ⟨c, hc, stabx c (XD X) (XD X') a b h1 (hXD X h5) (by show D ≤ _; omega) (hm.mono fun _ _ x => .inr (.inr x)) (hXX X X' a b hx), (hm.get _ (by omega) hn0).trans h2, h3.of_eq (hm.get _ (by omega) hn1), Nat.le_trans h4 hm.size, hX2 X X' a b h5 h4 hx⟩
    · rintro i hi X a ⟨h1, h2, h3, h4, h5⟩ hXb _
      show callvK P _ a (xs[i]?.getD []) (.func (.yield (D + 1)) #[] #[])
      simp only [callvK, Array.toList_empty, List.nil_append]
      refine yield_rule (n := n) h3 (hlen i hi) ?_
      have hXDa : ∀ k, XD X k → w.heap.size ≤ k ∧ k < a.heap.size := by
        intro k hk
        refine ⟨hXD X h5 k hk, ?_⟩
        rcases hk with rfl | rfl | hk
        · omega
        · omega
        · exact (hXb k hk).2
      refine wpIn_mono (vc_sound asg _ _ _ _ (round i hi (XD X) a h1 hXDa h4)) (lift_mono ?_)
      rintro e ρ1 ds1 b ⟨rfl, rfl, hm, hI'⟩
      refine ⟨rfl, rfl, hm.get _ (by omega) id, fun c hmc => ?_⟩
      have hms := hm.size
      have hmcs := hmc.size
      have hsz : D + 2 ≤ c.heap.size := Nat.le_trans (Nat.le_trans h4 hm.size) hmc.size
      have hcD : c.heap[D]? = some (.deferred (some [])) := (hmc.get _ (by omega) (by omega)).trans ((hm.get _ (by omega) id).trans h2)
      have hmX : Mod (XD X) b c := hmc.mono fun k _ x => .inr (.inl x)
      have hIc : I i (XD X) c := stab i (XD X) (XD X) b c (stab i (XD X) (XD X) a b h1 (hXD X h5) (by show D ≤ _; omega) (hm.mono fun _ _ x => x.elim) (fun k x => .inl x)) (hXD X h5) (by show D ≤ _; omega) hmX (fun k x => .inl x)
      refine wpIn_mono (vc_sound body _ _ _ _ (hI' c hmX hIc)) (lift_mono ?_)
      rintro e ρ2 ds2 d ⟨⟨k1, k2⟩, hq⟩
      have hsz' : D + 2 ≤ d.heap.size := Nat.le_trans hsz k1
      have kX : ∀ w4, Mod (fun k => k = D + 1) d w4 → a.heap.size ≤ w4.heap.size ∧ ∀ k, X k → w4.heap[k]? = a.heap[k]? := by
        intro w4 hm4
        have hm4s := hm4.size
        refine ⟨by omega, fun k hk => ?_⟩
        have hk2 := h5 k hk
        have hka := (hXb k hk).2
        rw [hm4.get k (by omega) (by omega), k2 k (.inr (.inr hk)), hmc.get k (by omega) (by omega), hm.get k (by omega) id]
      have kS : ∀ w4, Mod (fun k => k = D + 1) d w4 → Mod (XD X) d w4 := fun w4 hm4 => hm4.mono fun k _ x => .inr (.inl x)
      refine ⟨k2 _ (.inr (.inl rfl)), ?_⟩
      rcases hq with ⟨rfl, hI⟩ | ⟨cc, hc, hIx⟩
      · exact .inl ⟨rfl, fun w4 hm4 hl4 => ⟨kX w4 hm4, .inl ⟨rfl, stab _ (XD X) (XD X) d w4 hI (hXD X h5) (by show D ≤ _; omega) (kS w4 hm4) (fun k x => .inl x), (hm4.get _ (by omega) (by omega)).trans ((k2 _ (.inl rfl)).trans hcD), hl4, Nat.le_trans hsz' hm4.size, h5⟩⟩⟩
      · refine .inr ⟨cc, hc, fun w4 hm4 hl4 => ⟨kX w4 hm4, .inr ⟨rfl, cc, ?_, stabx _ (XD X) (XD X) d w4 hIx (hXD X h5) (by show D ≤ _; omega) (kS w4 hm4) (fun k x => .inl x), (hm4.get _ (by omega) (by omega)).trans ((k2 _ (.inl rfl)).trans hcD), hl4, Nat.le_trans hsz' hm4.size, h5⟩⟩⟩
        rcases hc with ⟨h, _⟩ | ⟨id, h, _⟩
        · exact .inl h
        · exact .inr ⟨id, h⟩
  refine ⟨D + 1, [markD D], w1, ⟨.fn (.func gf) cap.toArray, #[y]⟩, w1, gf, (y :: cap).toArray, w1, ?_, ?_, fun _ _ => trivial, ?_, fun h => by simp [Fence.wide] at h, ?_⟩
  · simp only [Instr.enterLoop, Fence.wide, Sem.run_bind, run_newObj, Result.andThen, pure, Sem.run]
    show Result.ok (w0.heap.size, _) _ = _
    rw [hw0s]; rfl
  · simp only [resolve, rangeCall, hfE, hf, Deferred.ofValue, pure]
    simp [Sem.run, y, Act.eval]
  · have e : #[y] ++ cap.toArray = (y :: cap).toArray := by apply Array.ext'; simp
    simp only [invoke]
    rw [e]; exact callFunc_ok hcall.1
  · refine CallsIn.mono hcall.2 ?_
    rintro e w3 ⟨v, rfl, hs3, X, hXb, hj⟩
    have hend : ∀ (st : LoopState) (pend : Option Code), st ≠ .busy → LoopAt w3 (D + 1) n ρ params asg body st pend → ∃ w4, (Instr.endLoop (D + 1)).run P w3 = .ok pend w4 ∧ Mod (XD X) w3 w4 ∧ w4.heap[D]? = w3.heap[D]? := by
      rintro st pend hst ⟨fn', D', hl⟩
      refine ⟨set w3 (D + 1) (.loop { state := .exhausted, pending := pend, fn := fn', tmps := tm n ρ, params, assign := asg, body, defers := D' }), ?_, (Mod.refl _ _).set (.inr (.inr (.inl rfl))), get_set_other _ _ _ _ (by omega)⟩
      simp [Instr.endLoop, Instr.getLoop, getObj, setObj, Sem.run_bind, Sem.run, hl, Result.andThen, pure, hst, set]
    have ha : ({ mkA n ρ ds with defers := [markD D] ++ (mkA n ρ ds).defers } : Act) = mkA n ρ (markD D :: ds) := rfl
    have hbd : ∀ w4, Mod (XD X) w3 w4 → D + 2 ≤ w3.heap.size → ∀ k, XD X k → w.heap.size ≤ k ∧ k < w4.heap.size := by
      rintro w4 m4 h4 k hk
      have := m4.size
      refine ⟨?_, ?_⟩
      · rcases hk with rfl | rfl | hk
        · exact Nat.le_refl _
        · show D ≤ D + 1; omega
        · have := (hXb k hk).1; show D ≤ k; omega
      · rcases hk with rfl | rfl | hk
        · omega
        · omega
        · have := (hXb k hk).2; omega
    rcases hj with ⟨h1, h2, h3, h4, h5⟩ | ⟨c, hc, h1, h2, h3, h4, h5⟩
    · obtain ⟨w4, e4, m4, d4⟩ := hend _ _ (by simp) h3
      exact ⟨none, w4, e4, ρ, _, rfl, done (XD X) w4 (stab _ (XD X) (XD X) _ _ h1 (hXD X h5) (by show D ≤ _; omega) m4 (fun k x => .inl x)) ⟨d4.trans h2, Nat.le_trans h4 m4.size, hbd w4 m4 h4⟩⟩
    · obtain ⟨w4, e4, m4, d4⟩ := hend _ _ (by simp) h3
      have hs := stop c (XD X) w4 (stabx _ (XD X) (XD X) _ _ h1 (hXD X h5) (by show D ≤ _; omega) m4 (fun k x => .inl x)) ⟨d4.trans h2, Nat.le_trans h4 m4.size, hbd w4 m4 h4⟩
      refine ⟨some c, w4, e4, ?_⟩
      rw [ha]
      rcases hc with rfl | ⟨id, rfl⟩
      · exact wpIn_ret ⟨ρ, _, rfl, hs⟩
      · exact wpIn_exit ⟨ρ, _, rfl, hs⟩

end Go.Vc
