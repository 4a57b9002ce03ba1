import Derived.Test.YtbkddpckkgbbmaaGreatDoorVcM
namespace Go.Vc
open Go

variable {P : Program} {ro : Option Nat} {n : Nat} {ops : Array Oper} {Fix : World → Prop} {md : Region.Mode} {Q : Act → World → Prop} {S : Nat → Bool}

/-! ### regions with open order whose calls change the world: the calls come in their order, what else looks at the world looks at what stays -/

/-- the same value in every world of the class, which is left as it is. -/
def Val (P : Program) (Fix : World → Prop) (o : Oper) (a : Act) (u : Value) : Prop :=
  ∀ w, Fix w → (execOp a.eval o).run P w = .ok (.value u) w ∨ ((execOp a.eval o).run P w = .ok .skip w ∧ u = undef)

theorem Val.unique {o : Oper} {a : Act} {u u' : Value} {w : World} (hw : Fix w) (h : Val P Fix o a u) (h' : Val P Fix o a u') : u = u' := by
  rcases h w hw with e | ⟨e, rfl⟩ <;> rcases h' w hw with e' | ⟨e', rfl⟩ <;> rw [e] at e' <;> simp at e' <;> first | exact e' | rfl

def dOp (P : Program) (ops : Array Oper) (Fix : World → Prop) (S : Nat → Bool) (i : Nat) (K : Act → World → Prop) (a : Act) (w : World) : Prop :=
  match ops[i]? with
  | none => K a w
  | some o =>
    if Region.wanted o (yielded ops a.tmps) then
      (if S i then upon P (fun v w' => Fix w' ∧ K (a.put o.dst v) w') ((execOp a.eval o).run P w) else ∃ u, Val P Fix o a u ∧ K (a.put o.dst u) w)
    else K (a.put o.dst undef) w

theorem upon_mono {K K' : Value → World → Prop} (h : ∀ v w, K v w → K' v w) {r : Result Next} (hr : upon P K r) : upon P K' r := by
  match r, hr with
  | .ok (.value v) w, x => exact h _ _ x
  | .ok .skip w, x => exact h _ _ x
  | .ok (.enter f args) w, x => exact callP_mono x h
  | .ok (.round l f tmps as bd) w, x => exact RoundIn.mono x fun e w' ⟨v, he, y⟩ => ⟨v, he, h _ _ y⟩

theorem upon_false {r : Result Next} (h : upon P (fun _ _ => False) r) : False := by
  match r, h with
  | .ok (.enter f args) w, x =>
    obtain ⟨_, _, _, ⟨_, _, y⟩, _⟩ := x.2 [] (room_wide _)
    exact y
  | .ok (.round l f tmps as bd) w, x =>
    obtain ⟨_, _, ⟨_, _, y⟩, _⟩ := x.2 default [] (room_wide _)
    exact y

theorem dOp_mono {i : Nat} {K K' : Act → World → Prop} {a : Act} {w : World} (hw : Fix w) (h : ∀ a w, Fix w → K a w → K' a w) (hh : dOp P ops Fix S i K a w) : dOp P ops Fix S i K' a w := by
  unfold dOp at *
  cases ho : ops[i]? with
  | none => simp only [ho] at hh ⊢; exact h _ _ hw hh
  | some o =>
    simp only [ho] at hh ⊢
    by_cases hwt : Region.wanted o (yielded ops a.tmps) = true
    · rw [if_pos hwt] at hh ⊢
      by_cases hs : S i = true
      · rw [if_pos hs] at hh ⊢; exact upon_mono (fun v w' x => ⟨x.1, h _ _ x.1 x.2⟩) hh
      · rw [if_neg hs] at hh ⊢; obtain ⟨u, h1, h2⟩ := hh; exact ⟨u, h1, h _ _ hw h2⟩
    · rw [if_neg hwt] at hh ⊢; exact h _ _ hw hh

def wpAnyD (P : Program) (md : Region.Mode) (ops : Array Oper) (Fix : World → Prop) (S : Nat → Bool) (Q : Act → World → Prop) : Nat → Array Bool → Act → World → Prop
  | 0, listed, a, w => Region.ready md ops listed = [] ∧ Q a w
  | fuel + 1, listed, a, w =>
    (Region.ready md ops listed = [] → Q a w) ∧
    ∀ i ∈ Region.ready md ops listed, dOp P ops Fix S i (wpAnyD P md ops Fix S Q fuel (listed.setIfInBounds i true)) a w

theorem wpIn_of_upon {o : Oper} {a : Act} {w : World} {K : Act → World → Prop} {Q' : Exit → Act → World → Prop} (h : upon P (fun v w' => K (a.put o.dst v) w') ((execOp a.eval o).run P w)) : o.wpIn (FW ro) 0 P a w K Q' := by
  refine ⟨fun f _ => trivial, ?_⟩
  have hnd : ∀ c, o.op ≠ .defer c := by
    intro c hc'
    simp only [execOp, hc', Sem.run_bind] at h
    cases hr : (resolve a.eval c o.type).run P w with
    | ok d w' => simp [hr, Result.andThen, pure, Sem.run, upon] at h
    | halt x w' => simp [hr, Result.andThen, upon] at h
  rw [Oper.semAt_eq _ _ _ hnd]
  exact uponIn_of_upon h

theorem wpAnyIn_of_D {Q' : Exit → Act → World → Prop} (hQ : ∀ a w, Fix w → Q a w → Q' .normal a w) : ∀ (fuel : Nat) (listed : Array Bool) (a : Act) (w : World), Fix w →
    wpAnyD P md ops Fix S Q fuel listed a w → wpAnyIn (FW ro) 0 P md ops Q' fuel listed a w
  | 0, _, _, _, hw, h => ⟨h.1, hQ _ _ hw h.2⟩
  | fuel + 1, _, a, w, hw, h => ⟨fun h0 => hQ _ _ hw (h.1 h0), fun i hi => by
      have hq := h.2 i hi
      unfold dOp at hq
      unfold wpOpIn
      split
      · rename_i ho; simp only [ho] at hq; exact wpAnyIn_of_D hQ fuel _ _ _ hw hq
      · rename_i o ho
        simp only [ho] at hq
        split
        · rename_i hwt
          simp only [hwt, if_true] at hq
          by_cases hs : S i = true
          · rw [if_pos hs] at hq
            exact wpIn_of_upon (upon_mono (fun v w' x => wpAnyIn_of_D hQ fuel _ _ _ x.1 x.2) hq)
          · rw [if_neg hs] at hq
            obtain ⟨u, h1, h2⟩ := hq
            refine wpIn_of_upon ?_
            rcases h1 w hw with e | ⟨e, rfl⟩
            · rw [e]; exact wpAnyIn_of_D hQ fuel _ _ _ hw h2
            · rw [e]; exact wpAnyIn_of_D hQ fuel _ _ _ hw h2
        · rename_i hwt; simp only [hwt] at hq
          exact ⟨fun f _ => trivial, wpAnyIn_of_D hQ fuel _ _ _ hw hq⟩⟩

/-- i's own value stands fast in state a. -/
def FixedAt (P : Program) (ops : Array Oper) (Fix : World → Prop) (S : Nat → Bool) (i : Nat) (o : Oper) (v : Value) (a : Act) : Prop :=
  (Region.wanted o (yielded ops a.tmps) = true ∧ S i = false ∧ Val P Fix o a v) ∨ (Region.wanted o (yielded ops a.tmps) = false ∧ v = undef)

theorem FixedAt.dOp {i : Nat} {o : Oper} {v : Value} {a : Act} {w : World} (hi : ops[i]? = some o) (h : FixedAt P ops Fix S i o v a) {K : Act → World → Prop} (hk : K (a.put o.dst v) w) : dOp P ops Fix S i K a w := by
  unfold Vc.dOp
  simp only [hi]
  rcases h with ⟨h1, h2, h3⟩ | ⟨h1, rfl⟩
  · simp only [h1, if_true, h2]; exact ⟨v, h3, hk⟩
  · simp only [h1, Bool.false_eq_true, if_false]; exact hk

theorem FixedAt.of_same {i : Nat} {o : Oper} {v : Value} {a a' : Act} (h : FixedAt P ops Fix S i o v a) (he : execOp a'.eval o = execOp a.eval o)
    (hw : Region.wanted o (yielded ops a'.tmps) = Region.wanted o (yielded ops a.tmps)) : FixedAt P ops Fix S i o v a' := by
  unfold FixedAt Val at *
  rw [he, hw]; exact h

theorem dOp_put {i j : Nat} {oi oj : Oper} {v : Value} (hj : ops[j]? = some oj) (hap : oi.apart ops oj = true) (hsi : ∀ cs b, oi.op ≠ .select cs b) (hsj : ∀ cs b, oj.op ≠ .select cs b)
    {K : Act → World → Prop} {a : Act} {w : World} (hy : FixedAt P ops Fix S i oi v a) (h : dOp P ops Fix S j K (a.put oi.dst v) w) :
    dOp P ops Fix S j (fun a' w' => FixedAt P ops Fix S i oi v a' ∧ K (a'.put oi.dst v) w') a w := by
  obtain ⟨h1, h2, h3⟩ := Oper.apart_spec hap
  have keep : ∀ u, FixedAt P ops Fix S i oi v (a.put oj.dst u) := fun u => hy.of_same (execOp_put oi hsi a oj.dst u h3) (wanted_put oi a oj.dst u h3)
  unfold dOp at *
  simp only [hj] at *
  rw [wanted_put oj a oi.dst v h1] at h
  split
  · rename_i hw
    simp only [hw, if_true] at h
    by_cases hs : S j = true
    · rw [if_pos hs] at h ⊢
      rw [execOp_put oj hsj a oi.dst v h1] at h
      exact upon_mono (fun u w' x => ⟨x.1, keep u, by rw [← Act.put_comm a v u h2]; exact x.2⟩) h
    · rw [if_neg hs] at h ⊢
      obtain ⟨u, hu, hn⟩ := h
      refine ⟨u, ?_, keep u, by rw [← Act.put_comm a v u h2]; exact hn⟩
      unfold Val at hu ⊢
      rwa [execOp_put oj hsj a oi.dst v h1] at hu
  · rename_i hw
    simp only [hw] at h
    exact ⟨keep _, by rw [← Act.put_comm a v undef h2]; exact h⟩

/-- what waits for i. -/
structure Waits (md : Region.Mode) (ops : Array Oper) (S : Nat → Bool) (i : Nat) (listed : Array Bool) (W : Nat → Prop) : Prop where
  unlisted : ∀ p, W p → listed.getD p false = false
  edge : ∀ p o, W p → ops[p]? = some o → ∃ e ∈ o.after, Region.binds md e = true ∧ (e.on = i ∨ W e.on)
  steps : ∀ j, S j = true → j ≠ i → listed.getD j true = false → W j

theorem Waits.not_ready {i : Nat} {listed : Array Bool} {W : Nat → Prop} (h : Waits md ops S i listed W) (hi : listed.getD i true = false) {j : Nat} (hj : j ∈ Region.ready md ops listed) : ¬ W j := by
  intro hw
  obtain ⟨_, o, ho, hall⟩ := mem_ready.1 hj
  obtain ⟨e, he, hb, hor⟩ := h.edge j o hw ho
  have h1 := hall e he hb
  rcases hor with heq | hwe
  · rw [heq] at h1
    rcases Nat.lt_or_ge i listed.size with h' | h'
    · simp [h'] at hi h1; rw [hi] at h1; cases h1
    · simp [Array.getElem?_eq_none h'] at h1
  · rw [h.unlisted _ hwe] at h1; cases h1

theorem Waits.step {i : Nat} {listed : Array Bool} {W : Nat → Prop} (h : Waits md ops S i listed W) {j : Nat} (hj : ¬ W j) : Waits md ops S i (listed.setIfInBounds j true) W := by
  refine ⟨fun p hp => ?_, h.edge, fun k hk hne hun => h.steps k hk hne ?_⟩
  · have : j ≠ p := fun e => hj (e ▸ hp)
    rw [getD_set_ne false this]; exact h.unlisted p hp
  · by_cases hjk : j = k
    · subst hjk
      rcases Nat.lt_or_ge j listed.size with h' | h'
      · simp [h'] at hun
      · simp [Array.getElem?_eq_none h'] at hun
    · rw [getD_set_ne true hjk] at hun; exact hun

theorem wpAnyD_first {i : Nat} {oi : Oper} (hi : ops[i]? = some oi) (hsel : ∀ (j : Nat) (o : Oper) cs b, ops[j]? = some o → o.op ≠ .select cs b) {W : Nat → Prop} :
    ∀ (fuel : Nat) (listed : Array Bool) (a : Act) (w : World), Fix w →
      (∀ j oj, ops[j]? = some oj → j ≠ i → listed.getD j true = false → (∀ e ∈ oj.after, Region.binds md e = true → e.on ≠ i) → oi.apart ops oj = true) →
      i ∈ Region.ready md ops listed → (S i = true → Waits md ops S i listed W) →
      dOp P ops Fix S i (wpAnyD P md ops Fix S Q fuel (listed.setIfInBounds i true)) a w → wpAnyD P md ops Fix S Q (fuel + 1) listed a w := by
  intro fuel
  induction fuel with
  | zero =>
    intro listed a w hw _ hr _ H
    refine ⟨fun h => (by rw [h] at hr; cases hr), fun j hj => ?_⟩
    by_cases hji : j = i
    · subst hji; exact H
    · exfalso
      have hjr := ready_mono hj hji
      have hno : ∀ a w, wpAnyD P md ops Fix S Q 0 (listed.setIfInBounds i true) a w → False := fun a w h => by rw [h.1] at hjr; cases hjr
      unfold dOp at H
      simp only [hi] at H
      split at H
      · split at H
        · exact upon_false (upon_mono (fun v w' x => hno _ _ x.2) H)
        · obtain ⟨u, _, h⟩ := H; exact hno _ _ h
      · exact hno _ _ H
  | succ fuel ih =>
    intro listed a w hw hfree hr hW H
    refine ⟨fun h => (by rw [h] at hr; cases hr), fun j hj => ?_⟩
    by_cases hji : j = i
    · subst hji; exact H
    · obtain ⟨hjun, oj, hoj, hall⟩ := mem_ready.1 hj
      have hiun := (mem_ready.1 hr).1
      have hnot : ∀ e ∈ oj.after, Region.binds md e = true → e.on ≠ i := fun e he hb heq => by
        have h1 := hall e he hb
        rw [heq] at h1
        rcases Nat.lt_or_ge i listed.size with h' | h'
        · simp [h'] at hiun h1; rw [hiun] at h1; cases h1
        · simp [Array.getElem?_eq_none h'] at h1
      have hap := hfree j oj hoj hji hjun hnot
      have hsi := fun cs b => hsel i oi cs b hi
      have hsj := fun cs b => hsel j oj cs b hoj
      have hfree' : ∀ k ok, ops[k]? = some ok → k ≠ i → (listed.setIfInBounds j true).getD k true = false →
          (∀ e ∈ ok.after, Region.binds md e = true → e.on ≠ i) → oi.apart ops ok = true := fun k ok hk hki hun hno => by
        refine hfree k ok hk hki ?_ hno
        by_cases hjk : j = k
        · subst hjk; exact hjun
        · rw [getD_set_ne true hjk] at hun; exact hun
      have hr' := ready_mono hr (Ne.symm hji)
      have hW' : S i = true → Waits md ops S i (listed.setIfInBounds j true) W := fun hs => (hW hs).step ((hW hs).not_ready hiun hj)
      have hjr := ready_mono hj hji
      by_cases hwi : Region.wanted oi (yielded ops a.tmps) = true ∧ S i = true
      · -- a step: what else may come now looks only at what stays
        obtain ⟨hwt, hs⟩ := hwi
        have hsjf : S j = false := by
          cases hsj' : S j with
          | false => rfl
          | true => exact absurd ((hW hs).steps j hsj' hji hjun) ((hW hs).not_ready hiun hj)
        obtain ⟨h1, h2, h3⟩ := Oper.apart_spec hap
        have H' : upon P (fun v w' => Fix w' ∧ wpAnyD P md ops Fix S Q (fuel + 1) (listed.setIfInBounds i true) (a.put oi.dst v) w') ((execOp a.eval oi).run P w) := by
          unfold dOp at H; simp only [hi, hwt, if_true, hs] at H; exact H
        -- i behind j, where j's value stands fast
        have goi : ∀ u, (∀ v w', Fix w' → wpAnyD P md ops Fix S Q (fuel + 1) (listed.setIfInBounds i true) (a.put oi.dst v) w' → wpAnyD P md ops Fix S Q fuel ((listed.setIfInBounds j true).setIfInBounds i true) ((a.put oj.dst u).put oi.dst v) w') →
            wpAnyD P md ops Fix S Q (fuel + 1) (listed.setIfInBounds j true) (a.put oj.dst u) w := by
          intro u hu
          refine ih (listed.setIfInBounds j true) (a.put oj.dst u) w hw hfree' hr' hW' ?_
          unfold dOp
          simp only [hi]
          rw [wanted_put oi a oj.dst u h3, if_pos hwt, if_pos hs, execOp_put oi hsi a oj.dst u h3]
          exact upon_mono (fun v w' x => ⟨x.1, hu v w' x.1 x.2⟩) H'
        unfold dOp
        simp only [hoj]
        by_cases hwj : Region.wanted oj (yielded ops a.tmps) = true
        · rw [if_pos hwj, if_neg (by simp [hsjf])]
          have outcome : ∀ v w', Fix w' → wpAnyD P md ops Fix S Q (fuel + 1) (listed.setIfInBounds i true) (a.put oi.dst v) w' → ∃ u, Val P Fix oj a u ∧ wpAnyD P md ops Fix S Q fuel ((listed.setIfInBounds i true).setIfInBounds j true) ((a.put oi.dst v).put oj.dst u) w' := by
            intro v w' _ h
            have hq := h.2 j hjr
            unfold dOp at hq
            simp only [hoj] at hq
            rw [wanted_put oj a oi.dst v h1, if_pos hwj, if_neg (by simp [hsjf])] at hq
            obtain ⟨u, hu, hk⟩ := hq
            unfold Val at hu
            rw [execOp_put oj hsj a oi.dst v h1] at hu
            exact ⟨u, hu, hk⟩
          by_cases hex : ∃ u, Val P Fix oj a u
          · obtain ⟨u0, hu0⟩ := hex
            refine ⟨u0, hu0, goi u0 fun v w' hfw h => ?_⟩
            obtain ⟨u, hu, hk⟩ := outcome v w' hfw h
            have : u = u0 := hu.unique hw hu0
            subst this
            rw [Array.setIfInBounds_comm _ _ hji, Act.put_comm a u v (fun d hd hd' => (h2 d hd') hd)]
            exact hk
          · exact (upon_false (upon_mono (fun v w' x => hex (let ⟨u, hu, _⟩ := outcome v w' x.1 x.2; ⟨u, hu⟩)) H')).elim
        · rw [if_neg hwj]
          refine goi undef fun v w' _ h => ?_
          have hq := h.2 j hjr
          unfold dOp at hq
          simp only [hoj] at hq
          rw [wanted_put oj a oi.dst v h1, if_neg hwj] at hq
          rw [Array.setIfInBounds_comm _ _ hji, Act.put_comm a undef v (fun d hd hd' => (h2 d hd') hd)]
          exact hq
      · -- i's value stands fast
        have hfx : ∃ v, FixedAt P ops Fix S i oi v a ∧ wpAnyD P md ops Fix S Q (fuel + 1) (listed.setIfInBounds i true) (a.put oi.dst v) w := by
          unfold dOp at H
          simp only [hi] at H
          by_cases hwt : Region.wanted oi (yielded ops a.tmps) = true
          · have hs : S i = false := by
              cases h : S i with
              | false => rfl
              | true => exact absurd ⟨hwt, h⟩ hwi
            rw [if_pos hwt, if_neg (by simp [hs])] at H
            obtain ⟨u, hu, hk⟩ := H
            exact ⟨u, .inl ⟨hwt, hs, hu⟩, hk⟩
          · rw [if_neg hwt] at H
            exact ⟨undef, .inr ⟨by simpa using hwt, rfl⟩, H⟩
        obtain ⟨v, hy, hk⟩ := hfx
        have h2 := dOp_put hoj hap hsi hsj hy (hk.2 j hjr)
        refine dOp_mono hw (fun a' w' hw' h3 => ih (listed.setIfInBounds j true) a' w' hw' hfree' hr' hW' ?_) h2
        refine h3.1.dOp hi ?_
        rw [Array.setIfInBounds_comm _ _ hji]
        exact h3.2

end Go.Vc
