import Derived.Test.YtbkddpckkgbbmaaGreatDoorVsA
set_option linter.unusedSimpArgs false
set_option linter.unusedVariables false
set_option linter.unusedSectionVars false
set_option linter.unnecessarySimpa false
namespace Go.Vc
open Go

variable {P : Program} {ro : Option Nat} {n : Nat} {ops : Array Oper}

/-! ### a region whose order is open, by what holds whichever operations are done -/

def depsOf (ops : Array Oper) : List (List Nat) := ops.toList.map fun o => (o.after.toList.filter (Region.binds .any)).map (·.on)

theorem countP_set (L : Nat → Bool) (i : Nat) : ∀ l : List Nat, l.Nodup → i ∈ l → L i = false → l.countP (fun k => !(k == i || L k)) + 1 = l.countP (fun k => !L k) := by
  intro l
  induction l with
  | nil => intro _ h _; cases h
  | cons x l ih =>
    intro hn hi hL
    have hn' := List.nodup_cons.1 hn
    rw [List.countP_cons, List.countP_cons]
    by_cases hx : x = i
    · subst hx
      have hsame : l.countP (fun k => !(k == x || L k)) = l.countP (fun k => !L k) := by
        refine List.countP_congr ?_
        intro k hk
        have hne : k ≠ x := fun e => hn'.1 (e ▸ hk)
        simp [hne]
      rw [hsame, hL]; simp
    · have hi' : i ∈ l := by rcases List.mem_cons.1 hi with e | h; exact absurd e.symm hx; exact h
      have := ih hn'.2 hi' hL
      have hb : (x == i) = false := by simpa using hx
      rw [hb]
      simp only [Bool.false_or]
      omega

theorem wpAnyIn_of_I {l : List In} {dp : List (List Nat)} {ds : List Deferred} (I : (Nat → Bool) → Env → World → Prop) {Q' : Exit → Act → World → Prop} (hl : compOps P n ops ops.toList = some l) (hdp : depsOf ops = dp)
    (hg : ∀ x ∈ l, x.g = none)
    (hlt : ∀ (i : Nat) (d : List Nat), dp[i]? = some d → ∀ k ∈ d, k < i)
    (hs : ∀ (L : Nat → Bool) (ρ : Env) (w : World) (i : Nat) (x : In) (d : List Nat), l[i]? = some x → dp[i]? = some d → L i = false → (∀ k ∈ d, L k = true) → I L ρ w → insVc P (fun v w' => I (fun k => k == i || L k) (updO ρ x.d v) w') ρ ds w x.i)
    (he : ∀ (L : Nat → Bool) (ρ : Env) (w : World), (∀ i, i < ops.size → L i = true) → I L ρ w → Q' .normal (mkA n ρ ds) w) :
    ∀ (fuel : Nat) (listed : Array Bool) (ρ : Env) (w : World), listed.size = ops.size → (List.range ops.size).countP (fun k => !(listed.getD k false)) ≤ fuel → I (fun k => listed.getD k false) ρ w →
      wpAnyIn (FW ro) 0 P .any ops Q' fuel listed (mkA n ρ ds) w := by
  have hcomp : ∀ (l0 : List Oper) (li : List In), compOps P n ops l0 = some li → (∀ x ∈ li, x.g = none) → ∀ (i : Nat) (o : Oper), l0[i]? = some o → li[i]? = some (⟨none, o.dst, compOp P n o⟩ : In) ∧ compG n ops o.guard = some none := by
    intro l0
    induction l0 with
    | nil => intro li _ _ i o h; simp at h
    | cons o0 l0 ih =>
      intro li hc hgn i o h
      simp only [compOps] at hc
      split at hc
      · rename_i g l' hgc hl'
        simp at hc; subst hc
        have h0 := hgn _ (List.mem_cons_self)
        simp only at h0
        subst h0
        cases i with
        | zero => simp at h; subst h; exact ⟨rfl, hgc⟩
        | succ i => simp at h; simpa using ih l' hl' (fun x hx => hgn x (List.mem_cons_of_mem _ hx)) i o h
      · cases hc
  have hall : ∀ (listed : Array Bool), listed.size = ops.size → Region.ready .any ops listed = [] → ∀ i, i < ops.size → listed.getD i false = true := by
    intro listed hsz hr i
    induction i using Nat.strongRecOn with
    | ind i ih =>
      intro hi
      cases hb : listed.getD i false with
      | true => rfl
      | false =>
        exfalso
        obtain ⟨o, ho⟩ : ∃ o, ops[i]? = some o := ⟨_, Array.getElem?_eq_getElem hi⟩
        have hmem : i ∈ Region.ready .any ops listed := by
          rw [mem_ready]
          refine ⟨?_, o, ho, ?_⟩
          · have hi' : i < listed.size := by omega
            simp only [Array.getD_eq_getD_getElem?, Array.getElem?_eq_getElem hi', Option.getD_some] at hb ⊢
            exact hb
          · intro e he' hbd
            have hd : dp[i]? = some ((o.after.toList.filter (Region.binds .any)).map (·.on)) := by
              rw [← hdp]
              simp [depsOf, ho]
            have hk := hlt i _ hd e.on (List.mem_map.2 ⟨e, List.mem_filter.2 ⟨Array.mem_toList_iff.2 he', hbd⟩, rfl⟩)
            exact ih e.on hk (by omega)
        rw [hr] at hmem; cases hmem
  intro fuel
  induction fuel with
  | zero =>
    intro listed ρ w hsz hc hI
    have hall' : ∀ i, i < ops.size → listed.getD i false = true := by
      intro i hi
      have := List.countP_eq_zero.1 (Nat.le_zero.1 hc) i (List.mem_range.2 hi)
      simpa using this
    refine ⟨?_, he _ ρ w hall' hI⟩
    refine List.eq_nil_iff_forall_not_mem.2 ?_
    intro j hj
    obtain ⟨h0, o, ho, _⟩ := mem_ready.1 hj
    have hj' : j < ops.size := (Array.getElem?_eq_some_iff.1 ho).1
    have h1 := hall' j hj'
    have hjl : j < listed.size := by omega
    simp only [Array.getD_eq_getD_getElem?, Array.getElem?_eq_getElem hjl, Option.getD_some] at h0 h1
    rw [h1] at h0; cases h0
  | succ fuel ih =>
    intro listed ρ w hsz hc hI
    refine ⟨fun h0 => he _ ρ w (hall listed hsz h0) hI, ?_⟩
    intro i hi
    obtain ⟨h0, o, ho, hdeps⟩ := mem_ready.1 hi
    have hi' : i < ops.size := (Array.getElem?_eq_some_iff.1 ho).1
    have hil : i < listed.size := by omega
    have hLi : listed.getD i false = false := by
      simp only [Array.getD_eq_getD_getElem?, Array.getElem?_eq_getElem hil, Option.getD_some] at h0 ⊢
      exact h0
    have ho' : ops.toList[i]? = some o := by simpa using ho
    obtain ⟨hx, hgd⟩ := hcomp _ _ hl hg i o ho'
    have hd : dp[i]? = some ((o.after.toList.filter (Region.binds .any)).map (·.on)) := by
      rw [← hdp]
      simp [depsOf, ho]
    have hins := hs _ ρ w i _ _ hx hd hLi (by
      intro k hk
      obtain ⟨e, he', rfl⟩ := List.mem_map.1 hk
      obtain ⟨h1, h2⟩ := List.mem_filter.1 he'
      exact hdeps e (Array.mem_toList_iff.1 h1) h2) hI
    unfold wpOpIn
    simp only [ho]
    have hwg := wanted_gate (ρ := ρ) (ds := ds) hgd
    rw [hwg]
    simp only [gateOf, if_true]
    refine wpIn_of_upon (upon_mono ?_ (sound_ins n o hins))
    intro v w' h
    rw [mkA_put]
    refine ih _ _ _ (by simp [hsz]) ?_ ?_
    · have hfun : (fun k => !((listed.setIfInBounds i true).getD k false)) = fun k => !(k == i || listed.getD k false) := by
        funext k
        by_cases hk : i = k
        · subst hk; simp [hil]
        · have : (k == i) = false := by simpa using fun e => hk e.symm
          rw [getD_set_ne false hk, this]; rfl
      have := countP_set (fun k => listed.getD k false) i (List.range ops.size) List.nodup_range (List.mem_range.2 hi') hLi
      rw [hfun]
      omega
    · have hfun : (fun k => (listed.setIfInBounds i true).getD k false) = fun k => (k == i || listed.getD k false) := by
        funext k
        by_cases hk : i = k
        · subst hk; simp [hil]
        · have : (k == i) = false := by simpa using fun e => hk e.symm
          rw [getD_set_ne false hk, this]; rfl
      rw [hfun]
      exact h

theorem draw_i (I : (Nat → Bool) → Env → World → Prop) {id : Nat} {l : List In} {dp : List (List Nat)} {Q : QT} {ρ : Env} {ds : List Deferred} {w : World} (hm : P.follows .mixedOrders = true) (hl : compOps P n ops ops.toList = some l) (hdp : depsOf ops = dp)
    (hg : l.all (fun x => x.g.isNone) = true) (hlt : (dp.zipIdx.all fun x => x.1.all fun k => decide (k < x.2)) = true)
    (h0 : I (fun _ => false) ρ w.drew)
    (hs : ∀ (L : Nat → Bool) (ρ : Env) (w : World) (i : Nat) (x : In) (d : List Nat), l[i]? = some x → dp[i]? = some d → L i = false → (∀ k ∈ d, L k = true) → I L ρ w → insVc P (fun v w' => I (fun k => k == i || L k) (updO ρ x.d v) w') ρ ds w x.i)
    (he : ∀ (L : Nat → Bool) (ρ : Env) (w : World), (∀ i, i < ops.size → L i = true) → I L ρ w → Q .normal ρ ds w) : vc P ro n (.draw id ops l) Q ρ ds w := by
  intro t
  simp only [Region.schedule, hm, Bool.true_or, if_true]
  refine wpAnyIn_sound ops.size t _ _ _ ?_
  refine wpAnyIn_of_I (ds := ds) I hl hdp ?_ ?_ hs (fun L ρ w h1 h2 => ⟨ρ, ds, rfl, he L ρ w h1 h2⟩) ops.size _ ρ w.drew (by simp) ?_ ?_
  · intro x hx
    have := List.all_eq_true.1 hg x hx
    simpa using this
  · intro i d hd k hk
    have h1 := List.all_eq_true.1 hlt (d, i) (List.mem_zipIdx_iff_getElem?.2 hd)
    simpa using List.all_eq_true.1 h1 k hk
  · refine Nat.le_trans List.countP_le_length (by simp)
  · have : (fun k => (Array.replicate ops.size false).getD k false) = fun _ => false := by
      funext k
      by_cases hk : k < ops.size
      · simp [hk]
      · simp [hk]
    rw [this]; exact h0

theorem nodup_idx : ∀ {l : List In} (_ : (l.filterMap (·.d)).Nodup) {i j : Nat} {x y : In} {t : Nat} (_ : l[i]? = some x) (_ : l[j]? = some y) (_ : x.d = some t) (_ : y.d = some t), i = j := by
  intro l
  induction l with
  | nil => intro _ i j x y t h; simp at h
  | cons a l ih =>
    intro hn i j x y t hx hy hxd hyd
    have hmem : ∀ (j : Nat) (y : In), l[j]? = some y → y.d = some t → t ∈ l.filterMap (·.d) := fun j y hy ht => List.mem_filterMap.2 ⟨y, List.mem_of_getElem? hy, ht⟩
    cases had : a.d with
    | none =>
      rw [List.filterMap_cons_none (by exact had)] at hn
      cases i with
      | zero => simp at hx; subst hx; rw [had] at hxd; cases hxd
      | succ i =>
        cases j with
        | zero => simp at hy; subst hy; rw [had] at hyd; cases hyd
        | succ j => simp at hx hy; rw [ih hn hx hy hxd hyd]
    | some t0 =>
      rw [List.filterMap_cons_some (by exact had)] at hn
      have hn' := List.nodup_cons.1 hn
      cases i with
      | zero =>
        cases j with
        | zero => rfl
        | succ j =>
          simp at hx hy; subst hx
          rw [had] at hxd; obtain rfl := Option.some.inj hxd
          exact (hn'.1 (hmem j y hy hyd)).elim
      | succ i =>
        cases j with
        | zero =>
          simp at hx hy; subst hy
          rw [had] at hyd; obtain rfl := Option.some.inj hyd
          exact (hn'.1 (hmem i x hx hxd)).elim
        | succ j => simp at hx hy; rw [ih hn'.2 hx hy hxd hyd]

/-- a region in which each operation leaves a value of which a fact holds, from then on, and changes nothing that was there. -/
theorem draw_f (Fs : List (Value → World → Prop)) {id : Nat} {l : List In} {dp : List (List Nat)} {Q : QT} {ρ : Env} {ds : List Deferred} {w : World} (hm : P.follows .mixedOrders = true) (hl : compOps P n ops ops.toList = some l) (hdp : depsOf ops = dp)
    (hg : l.all (fun x => x.g.isNone) = true) (hlt : (dp.zipIdx.all fun x => x.1.all fun k => decide (k < x.2)) = true)
    (hnd : ((l.filterMap (·.d)).Nodup)) (hlen : l.length = ops.size ∧ Fs.length = ops.size)
    (hst : ∀ F ∈ Fs, ∀ v w w', Mod (fun _ => False) w w' → F v w → F v w')
    (hs : ∀ (k : Nat) (x : In) (d : List Nat) (F : Value → World → Prop) (ρ' : Env) (w' : World), l[k]? = some x → dp[k]? = some d → Fs[k]? = some F → Mod (fun _ => False) w w' → (∀ t, t ∉ l.filterMap (·.d) → ρ' t = ρ t) →
      (∀ j ∈ d, ∀ y t G, l[j]? = some y → y.d = some t → Fs[j]? = some G → G (ρ' t) w') → ∀ K : Value → World → Prop, (∀ v w'', Mod (fun _ => False) w' w'' → F v w'' → K v w'') → insVc P K ρ' ds w' x.i)
    (he : ∀ (ρ' : Env) (w' : World), Mod (fun _ => False) w w' → (∀ t, t ∉ l.filterMap (·.d) → ρ' t = ρ t) → (∀ (j : Nat) y t G, l[j]? = some y → y.d = some t → Fs[j]? = some G → G (ρ' t) w') → Q .normal ρ' ds w') : vc P ro n (.draw id ops l) Q ρ ds w := by
  refine draw_i (fun L ρ' w' => Mod (fun _ => False) w w' ∧ (∀ t, t ∉ l.filterMap (·.d) → ρ' t = ρ t) ∧ (∀ (j : Nat) y t G, l[j]? = some y → y.d = some t → Fs[j]? = some G → L j = true → G (ρ' t) w')) hm hl hdp hg hlt ⟨(Mod.refl _ _).drew, fun _ _ => rfl, fun _ _ _ _ _ _ _ h => (Bool.false_ne_true h).elim⟩ ?_ ?_
  · rintro L ρ' w' k x d hx hd hL hdeps ⟨hmw, hfr, hf⟩
    have hk : k < Fs.length := by rw [hlen.2, ← hlen.1]; exact (List.getElem?_eq_some_iff.1 hx).1
    have hF : Fs[k]? = some Fs[k] := List.getElem?_eq_getElem hk
    refine hs k x d _ ρ' w' hx hd hF hmw hfr (fun j hj y t G hy ht hG => hf j y t G hy ht hG (hdeps j hj)) _ ?_
    intro v w'' hm' hv
    have hmem : ∀ (j : Nat) y t, l[j]? = some y → y.d = some t → t ∈ l.filterMap (·.d) := fun j y t hy ht => List.mem_filterMap.2 ⟨y, List.mem_of_getElem? hy, ht⟩
    refine ⟨hmw.trans hm', ?_, ?_⟩
    · intro t ht
      cases hxd : x.d with
      | none => exact hfr t ht
      | some t0 =>
        have : t ≠ t0 := fun e => ht (e ▸ hmem k x t0 hx hxd)
        show upd ρ' t0 v t = _
        rw [upd_other this]; exact hfr t ht
    · intro j y t G hy ht hG hb
      by_cases hjk : j = k
      · subst hjk
        rw [hx] at hy
        obtain rfl := Option.some.inj hy
        rw [hF] at hG
        obtain rfl := Option.some.inj hG
        rw [ht]
        show Fs[j] (upd ρ' t v t) w''
        rw [upd_same]; exact hv
      · have hb' : L j = true := by
          have : (j == k) = false := by simpa using hjk
          have hb2 : (j == k || L j) = true := hb
          rw [this] at hb2; exact hb2
        have hold := hst G (List.mem_of_getElem? hG) _ _ _ hm' (hf j y t G hy ht hG hb')
        cases hxd : x.d with
        | none => exact hold
        | some t0 =>
          have hne : t ≠ t0 := by
            intro e
            subst e
            exact hjk (nodup_idx hnd hy hx ht hxd)
          show G (upd ρ' t0 v t) w''
          rw [upd_other hne]; exact hold
  · rintro L ρ' w' hall ⟨hmw, hfr, hf⟩
    refine he ρ' w' hmw hfr ?_
    intro j y t G hy ht hG
    exact hf j y t G hy ht hG (hall j (by rw [← hlen.1]; exact (List.getElem?_eq_some_iff.1 hy).1))

end Go.Vc
