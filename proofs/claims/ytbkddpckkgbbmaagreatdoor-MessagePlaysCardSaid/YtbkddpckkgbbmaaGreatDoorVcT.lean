import Derived.Test.YtbkddpckkgbbmaaGreatDoorVsA
set_option linter.unusedSimpArgs false
set_option linter.unusedVariables false
set_option linter.unusedSectionVars false
set_option linter.unnecessarySimpa false
namespace Go.Vc
open Go

variable {P : Program} {ro : Option Nat} {n : Nat} {ops : Array Oper}

/-! ### a region whose order is open, by what holds whichever operations are done -/

def depsOf (ops : Array Oper) : List (List Nat) := ops.toList.map fun o => (o.after.toList.filter (Region.binds .any)).map (·.on)

theorem countP_set (L : Nat → Bool) (i : Nat) : ∀ l : List Nat, l.Nodup → i ∈ l → L i = false → l.countP (fun k => !(k == i || L k)) + 1 = l.countP (fun k => !L k) := by
  intro l
  induction l with
  | nil => intro _ h _; cases h
  | cons x l ih =>
    intro hn hi hL
    have hn' := List.nodup_cons.1 hn
    rw [List.countP_cons, List.countP_cons]
    by_cases hx : x = i
    · subst hx
      have hsame : l.countP (fun k => !(k == x || L k)) = l.countP (fun k => !L k) := by
        refine List.countP_congr ?_
        intro k hk
        have hne : k ≠ x := fun e => hn'.1 (e ▸ hk)
        simp [hne]
      rw [hsame, hL]; simp
    · have hi' : i ∈ l := by rcases List.mem_cons.1 hi with e | h; exact absurd e.symm hx; exact h
      have := ih hn'.2 hi' hL
      have hb : (x == i) = false := by simpa using hx
      rw [hb]
      simp only [Bool.false_or]
      omega

theorem wpAnyIn_of_I {l : List In} {dp : List (List Nat)} {ds : List Deferred} (I : (Nat → Bool) → Env → World → Prop) {Q' : Exit → Act → World → Prop} (hl : compOps P n ops ops.toList = some l) (hdp : depsOf ops = dp)
    (hg : ∀ x ∈ l, x.g = none)
    (hlt : ∀ (i : Nat) (d : List Nat), dp[i]? = some d → ∀ k ∈ d, k < i)
    (hs : ∀ (L : Nat → Bool) (ρ : Env) (w : World) (i : Nat) (x : In) (d : List Nat), l[i]? = some x → dp[i]? = some d → L i = false → (∀ k ∈ d, L k = true) → I L ρ w → insVc P (fun v w' => I (fun k => k == i || L k) (updO ρ x.d v) w') ρ ds w x.i)
    (he : ∀ (L : Nat → Bool) (ρ : Env) (w : World), (∀ i, i < ops.size → L i = true) → I L ρ w → Q' .normal (mkA n ρ ds) w) :
    ∀ (fuel : Nat) (listed : Array Bool) (ρ : Env) (w : World), listed.size = ops.size → (List.range ops.size).countP (fun k => !(listed.getD k false)) ≤ fuel → I (fun k => listed.getD k false) ρ w →
      wpAnyIn (FW ro) 0 P .any ops Q' fuel listed (mkA n ρ ds) w := by
  have hcomp : ∀ (l0 : List Oper) (li : List In), compOps P n ops l0 = some li → (∀ x ∈ li, x.g = none) → ∀ (i : Nat) (o : Oper), l0[i]? = some o → li[i]? = some (⟨none, o.dst, compOp P n o⟩ : In) ∧ compG n ops o.guard = some none := by
    intro l0
    induction l0 with
    | nil => intro li _ _ i o h; simp at h
    | cons o0 l0 ih =>
      intro li hc hgn i o h
      simp only [compOps] at hc
      split at hc
      · rename_i g l' hgc hl'
        simp at hc; subst hc
        have h0 := hgn _ (List.mem_cons_self)
        simp only at h0
        subst h0
        cases i with
        | zero => simp at h; subst h; exact ⟨rfl, hgc⟩
        | succ i => simp at h; simpa using ih l' hl' (fun x hx => hgn x (List.mem_cons_of_mem _ hx)) i o h
      · cases hc
  have hall : ∀ (listed : Array Bool), listed.size = ops.size → Region.ready .any ops listed = [] → ∀ i, i < ops.size → listed.getD i false = true := by
    intro listed hsz hr i
    induction i using Nat.strongRecOn with
    | ind i ih =>
      intro hi
      cases hb : listed.getD i false with
      | true => rfl
      | false =>
        exfalso
        obtain ⟨o, ho⟩ : ∃ o, ops[i]? = some o := ⟨_, Array.getElem?_eq_getElem hi⟩
        have hmem : i ∈ Region.ready .any ops listed := by
          rw [mem_ready]
          refine ⟨?_, o, ho, ?_⟩
          · have hi' : i < listed.size := by omega
            simp only [Array.getD_eq_getD_getElem?, Array.getElem?_eq_getElem hi', Option.getD_some] at hb ⊢
            exact hb
          · intro e he' hbd
            have hd : dp[i]? = some ((o.after.toList.filter (Region.binds .any)).map (·.on)) := by
              rw [← hdp]
              simp [depsOf, ho]
            have hk := hlt i _ hd e.on (List.mem_map.2 ⟨e, List.mem_filter.2 ⟨Array.mem_toList_iff.2 he', hbd⟩, rfl⟩)
            exact ih e.on hk (by omega)
        rw [hr] at hmem; cases hmem
  intro fuel
  induction fuel with
  | zero =>
    intro listed ρ w hsz hc hI
    have hall' : ∀ i, i < ops.size → listed.getD i false = true := by
      intro i hi
      have := List.countP_eq_zero.1 (Nat.le_zero.1 hc) i (List.mem_range.2 hi)
      simpa using this
    refine ⟨?_, he _ ρ w hall' hI⟩
    refine List.eq_nil_iff_forall_not_mem.2 ?_
    intro j hj
    obtain ⟨h0, o, ho, _⟩ := mem_ready.1 hj
    have hj' : j < ops.size := (Array.getElem?_eq_some_iff.1 ho).1
    have h1 := hall' j hj'
    have hjl : j < listed.size := by omega
    simp only [Array.getD_eq_getD_getElem?, Array.getElem?_eq_getElem hjl, Option.getD_some] at h0 h1
    rw [h1] at h0; cases h0
  | succ fuel ih =>
    intro listed ρ w hsz hc hI
    refine ⟨fun h0 => he _ ρ w (hall listed hsz h0) hI, ?_⟩
    intro i hi
    obtain ⟨h0, o, ho, hdeps⟩ := mem_ready.1 hi
    have hi' : i < ops.size := (Array.getElem?_eq_some_iff.1 ho).1
    have hil : i < listed.size := by omega
    have hLi : listed.getD i false = false := by
      simp only [Array.getD_eq_getD_getElem?, Array.getElem?_eq_getElem hil, Option.getD_some] at h0 ⊢
      exact h0
    have ho' : ops.toList[i]? = some o := by simpa using ho
    obtain ⟨hx, hgd⟩ := hcomp _ _ hl hg i o ho'
    have hd : dp[i]? = some ((o.after.toList.filter (Region.binds .any)).map (·.on)) := by
      rw [← hdp]
      simp [depsOf, ho]
    have hins := hs _ ρ w i _ _ hx hd hLi (by
      intro k hk
      obtain ⟨e, he', rfl⟩ := List.mem_map.1 hk
      obtain ⟨h1, h2⟩ := List.mem_filter.1 he'
      exact hdeps e (Array.mem_toList_iff.1 h1) h2) hI
    unfold wpOpIn
    simp only [ho]
    have hwg := wanted_gate (ρ := ρ) (ds := ds) hgd
    rw [hwg]
    simp only [gateOf, if_true]
    refine wpIn_of_upon (upon_mono ?_ (sound_ins n o hins))
    intro v w' h
    rw [mkA_put]
    refine ih _ _ _ (by simp [hsz]) ?_ ?_
    · have hfun : (fun k => !((listed.setIfInBounds i true).getD k false)) = fun k => !(k == i || listed.getD k false) := by
        funext k
        by_cases hk : i = k
        · subst hk; simp [hil]
        · have : (k == i) = false := by simpa using fun e => hk e.symm
          rw [getD_set_ne false hk, this]; rfl
      have := countP_set (fun k => listed.getD k false) i (List.range ops.size) List.nodup_range (List.mem_range.2 hi') hLi
      rw [hfun]
      omega
    · have hfun : (fun k => (listed.setIfInBounds i true).getD k false) = fun k => (k == i || listed.getD k false) := by
        funext k
        by_cases hk : i = k
        · subst hk; simp [hil]
        · have : (k == i) = false := by simpa using fun e => hk e.symm
          rw [getD_set_ne false hk, this]; rfl
      rw [hfun]
      exact h

theorem draw_i (I : (Nat → Bool) → Env → World → Prop) {id : Nat} {l : List In} {dp : List (List Nat)} {Q : QT} {ρ : Env} {ds : List Deferred} {w : World} (hm : P.follows .mixedOrders = true) (hl : compOps P n ops ops.toList = some l) (hdp : depsOf ops = dp)
    (hg : l.all (fun x => x.g.isNone) = true) (hlt : (dp.zipIdx.all fun x => x.1.all fun k => decide (k < x.2)) = true)
    (h0 : I (fun _ => false) ρ w.drew)
    (hs : ∀ (L : Nat → Bool) (ρ : Env) (w : World) (i : Nat) (x : In) (d : List Nat), l[i]? = some x → dp[i]? = some d → L i = false → (∀ k ∈ d, L k = true) → I L ρ w → insVc P (fun v w' => I (fun k => k == i || L k) (updO ρ x.d v) w') ρ ds w x.i)
    (he : ∀ (L : Nat → Bool) (ρ : Env) (w : World), (∀ i, i < ops.size → L i = true) → I L ρ w → Q .normal ρ ds w) : vc P ro n (.draw id ops l) Q ρ ds w := by
  intro t
  simp only [Region.schedule, hm, Bool.true_or, if_true]
  refine wpAnyIn_sound ops.size t _ _ _ ?_
  refine wpAnyIn_of_I (ds := ds) I hl hdp ?_ ?_ hs (fun L ρ w h1 h2 => ⟨ρ, ds, rfl, he L ρ w h1 h2⟩) ops.size _ ρ w.drew (by simp) ?_ ?_
  · intro x hx
    have := List.all_eq_true.1 hg x hx
    simpa using this
  · intro i d hd k hk
    have h1 := List.all_eq_true.1 hlt (d, i) (List.mem_zipIdx_iff_getElem?.2 hd)
    simpa using List.all_eq_true.1 h1 k hk
  · refine Nat.le_trans List.countP_le_length (by simp)
  · have : (fun k => (Array.replicate ops.size false).getD k false) = fun _ => false := by
      funext k
      by_cases hk : k < ops.size
      · simp [hk]
      · simp [hk]
    rw [this]; exact h0

theorem nodup_idx : ∀ {l : List In} (_ : (l.filterMap (·.d)).Nodup) {i j : Nat} {x y : In} {t : Nat} (_ : l[i]? = some x) (_ : l[j]? = some y) (_ : x.d = some t) (_ : y.d = some t), i = j := by
  intro l
  induction l with
  | nil => intro _ i j x y t h; simp at h
  | cons a l ih =>
    intro hn i j x y t hx hy hxd hyd
    have hmem : ∀ (j : Nat) (y : In), l[j]? = some y → y.d = some t → t ∈ l.filterMap (·.d) := fun j y hy ht => List.mem_filterMap.2 ⟨y, List.mem_of_getElem? hy, ht⟩
    cases had : a.d with
    | none =>
      rw [List.filterMap_cons_none (by exact had)] at hn
      cases i with
      | zero => simp at hx; subst hx; rw [had] at hxd; cases hxd
      | succ i =>
        cases j with
        | zero => simp at hy; subst hy; rw [had] at hyd; cases hyd
        | succ j => simp at hx hy; rw [ih hn hx hy hxd hyd]
    | some t0 =>
      rw [List.filterMap_cons_some (by exact had)] at hn
      have hn' := List.nodup_cons.1 hn
      cases i with
      | zero =>
        cases j with
        | zero => rfl
        | succ j =>
          simp at hx hy; subst hx
          rw [had] at hxd; obtain rfl := Option.some.inj hxd
          exact (hn'.1 (hmem j y hy hyd)).elim
      | succ i =>
        cases j with
        | zero =>
          simp at hx hy; subst hy
          rw [had] at hyd; obtain rfl := Option.some.inj hyd
          exact (hn'.1 (hmem i x hx hxd)).elim
        | succ j => simp at hx hy; rw [ih hn'.2 hx hy hxd hyd]

/-- a region in which each operation leaves a value of which a fact holds, from then on, and changes nothing that was there. -/
theorem draw_f (Fs : List (Value → World → Prop)) {id : Nat} {l : List In} {dp : List (List Nat)} {Q : QT} {ρ : Env} {ds : List Deferred} {w : World} (hm : P.follows .mixedOrders = true) (hl : compOps P n ops ops.toList = some l) (hdp : depsOf ops = dp)
    (hg : l.all (fun x => x.g.isNone) = true) (hlt : (dp.zipIdx.all fun x => x.1.all fun k => decide (k < x.2)) = true)
    (hnd : ((l.filterMap (·.d)).Nodup)) (hlen : l.length = ops.size ∧ Fs.length = ops.size)
    (hst : ∀ F ∈ Fs, ∀ v w w', Mod (fun _ => False) w w' → F v w → F v w')
    (hs : ∀ (k : Nat) (x : In) (d : List Nat) (F : Value → World → Prop) (ρ' : Env) (w' : World), l[k]? = some x → dp[k]? = some d → Fs[k]? = some F → Mod (fun _ => False) w w' → (∀ t, t ∉ l.filterMap (·.d) → ρ' t = ρ t) →
      (∀ j ∈ d, ∀ y t G, l[j]? = some y → y.d = some t → Fs[j]? = some G → G (ρ' t) w') → ∀ K : Value → World → Prop, (∀ v w'', Mod (fun _ => False) w' w'' → F v w'' → K v w'') → insVc P K ρ' ds w' x.i)
    (he : ∀ (ρ' : Env) (w' : World), Mod (fun _ => False) w w' → (∀ t, t ∉ l.filterMap (·.d) → ρ' t = ρ t) → (∀ (j : Nat) y t G, l[j]? = some y → y.d = some t → Fs[j]? = some G → G (ρ' t) w') → Q .normal ρ' ds w') : vc P ro n (.draw id ops l) Q ρ ds w := by
  refine draw_i (fun L ρ' w' => Mod (fun _ => False) w w' ∧ (∀ t, t ∉ l.filterMap (·.d) → ρ' t = ρ t) ∧ (∀ (j : Nat) y t G, l[j]? = some y → y.d = some t → Fs[j]? = some G → L j = true → G (ρ' t) w')) hm hl hdp hg hlt ⟨(Mod.refl _ _).drew, fun _ _ => rfl, fun _ _ _ _ _ _ _ h => (Bool.false_ne_true h).elim⟩ ?_ ?_
  · rintro L ρ' w' k x d hx hd hL hdeps ⟨hmw, hfr, hf⟩
    have hk : k < Fs.length := by rw [hlen.2, ← hlen.1]; exact (List.getElem?_eq_some_iff.1 hx).1
    have hF : Fs[k]? = some Fs[k] := List.getElem?_eq_getElem hk
    refine hs k x d _ ρ' w' hx hd hF hmw hfr (fun j hj y t G hy ht hG => hf j y t G hy ht hG (hdeps j hj)) _ ?_
    intro v w'' hm' hv
    have hmem : ∀ (j : Nat) y t, l[j]? = some y → y.d = some t → t ∈ l.filterMap (·.d) := fun j y t hy ht => List.mem_filterMap.2 ⟨y, List.mem_of_getElem? hy, ht⟩
    refine ⟨hmw.trans hm', ?_, ?_⟩
    · intro t ht
      cases hxd : x.d with
      | none => exact hfr t ht
      | some t0 =>
        have : t ≠ t0 := fun e => ht (e ▸ hmem k x t0 hx hxd)
        show upd ρ' t0 v t = _
        rw [upd_other this]; exact hfr t ht
    · intro j y t G hy ht hG hb
      by_cases hjk : j = k
      · subst hjk
        rw [hx] at hy
        obtain rfl := Option.some.inj hy
        rw [hF] at hG
        obtain rfl := Option.some.inj hG
        rw [ht]
        show Fs[j] (upd ρ' t v t) w''
        rw [upd_same]; exact hv
      · have hb' : L j = true := by
          have : (j == k) = false := by simpa using hjk
          have hb2 : (j == k || L j) = true := hb
          rw [this] at hb2; exact hb2
        have hold := hst G (List.mem_of_getElem? hG) _ _ _ hm' (hf j y t G hy ht hG hb')
        cases hxd : x.d with
        | none => exact hold
        | some t0 =>
          have hne : t ≠ t0 := by
            intro e
            subst e
            exact hjk (nodup_idx hnd hy hx ht hxd)
          show G (upd ρ' t0 v t) w''
          rw [upd_other hne]; exact hold
  · rintro L ρ' w' hall ⟨hmw, hfr, hf⟩
    refine he ρ' w' hmw hfr ?_
    intro j y t G hy ht hG
    exact hf j y t G hy ht hG (hall j (by rw [← hlen.1]; exact (List.getElem?_eq_some_iff.1 hy).1))

end Go.Vc

namespace Go.Vc
open Go

variable {P : Program} {go : Value → World → Prop} {w : World}

/-! ### texts as lists of bytes -/

theorem mk_size (a : List UInt8) : (⟨a.toArray⟩ : ByteArray).size = a.length := by simp [ByteArray.size]
theorem mk_append (a b : List UInt8) : (⟨a.toArray⟩ : ByteArray) ++ ⟨b.toArray⟩ = ⟨(a ++ b).toArray⟩ := by
  apply ByteArray.ext
  apply Array.ext'
  simp [ByteArray.data_append]
theorem mk_toList (a : List UInt8) : (⟨a.toArray⟩ : ByteArray).toList = a := by rw [ByteArray.toList_eq]
theorem sopK_add (a b : List UInt8) : sopK go w .add (.string ⟨a.toArray⟩) (.string ⟨b.toArray⟩) = (a.length + b.length ≤ 9223372036854775807 ∧ go (.string ⟨(a ++ b).toArray⟩) w) := by
  have e : IntKind.i64.max = 9223372036854775807 := rfl
  simp only [sopK, sopV, mk_size, mk_append, e]
  by_cases h : ((a.length + b.length : Nat) : Int) > 9223372036854775807
  · rw [if_pos h]
    have : ¬ (a.length + b.length ≤ 9223372036854775807) := by omega
    simp [loadV, this]
  · rw [if_neg h]
    have : a.length + b.length ≤ 9223372036854775807 := by omega
    simp [loadV, this]
theorem sopK_eql (a b : List UInt8) : sopK go w .eql (.string ⟨a.toArray⟩) (.string ⟨b.toArray⟩) = go (.bool (a == b)) w := by
  simp only [sopK, sopV, mk_toList, loadV]
theorem sopK_neq (a b : List UInt8) : sopK go w .neq (.string ⟨a.toArray⟩) (.string ⟨b.toArray⟩) = go (.bool !(a == b)) w := by
  simp only [sopK, sopV, mk_toList, loadV]
theorem lenSK_mk (a : List UInt8) : lenSK go w (.string ⟨a.toArray⟩) = go (.int .i64 a.length) w := by
  simp only [lenSK, mk_size]
end Go.Vc

namespace Go.Vc
open Go

/-! ### a slice of things of s cells -/

def IsT {α : Type} (cells : α → List Value) (s : Nat) (w : World) (v : Value) (l : List α) : Prop :=
  (∃ a c, v = .slice a l.length c) ∧ ∀ (i : Nat) x, l[i]? = some x → ∃ b o c cur t f, v = .slice (some ⟨b, o, none⟩) l.length c ∧ w.heap[b]? = some (.cells cur t f) ∧ o + i * s + s ≤ cur.size ∧ cur.extract (o + i * s) (o + i * s + s) = (cells x).toArray

variable {α : Type} {cells : α → List Value} {s : Nat} {w w' : World} {v : Value} {l : List α}

theorem IsT.mod {S : Nat → Prop} (h : IsT cells s w v l) (hm : Mod S w w') (hS : ∀ k, v.ownBlock = some k → ¬ S k) : IsT cells s w' v l :=
  ⟨h.1, fun i x hx => by obtain ⟨b, o, c, cur, t, f, h1, h2, h3⟩ := h.2 i x hx; exact ⟨b, o, c, cur, t, f, h1, hm.keep h2 (hS b (by rw [h1]; rfl)), h3⟩⟩
theorem IsT.keep (h : IsT cells s w v l) (hm : Mod (fun _ => False) w w') : IsT cells s w' v l := h.mod hm (fun _ _ x => x)
theorem IsT.nil (c : Nat) (a : Option Addr) : IsT cells s w (.slice a 0 c) ([] : List α) := ⟨⟨a, c, rfl⟩, fun i x hx => by simp at hx⟩
/-- thing i, at the slice's own address. -/
theorem IsT.at {a : Option Addr} {n c i : Nat} {x : α} (h : IsT cells s w (.slice a n c) l) (hx : l[i]? = some x) :
    ∃ b o cur t f, a = some ⟨b, o, none⟩ ∧ w.heap[b]? = some (.cells cur t f) ∧ o + i * s + s ≤ cur.size ∧ cur.extract (o + i * s) (o + i * s + s) = (cells x).toArray := by
  obtain ⟨b, o, c', cur, t, f, he, h1, h2, h3⟩ := h.2 i x hx
  exact ⟨b, o, cur, t, f, by simpa using congrArg (fun x => match x with | .slice a _ _ => a | _ => none) he, h1, h2, h3⟩
theorem IsT.len {a : Option Addr} {n c : Nat} (h : IsT cells s w (.slice a n c) l) : n = l.length := by
  obtain ⟨a', c', e⟩ := h.1
  exact congrArg (fun x => match x with | .slice _ n _ => n | _ => 0) e
end Go.Vc

namespace Go.Vc
open Go

variable {P : Program} {ro : Option Nat} {n : Nat} {ops : Array Oper}

/-! ### a region with open order whose steps leave all that was there as it is: its loads look at the world at its door -/

def stepE (P : Program) (w0 : World) (ρ : Env) (ds : List Deferred) (w : World) (i : Ins) (k : Value → World → Prop) : Kind → Prop
  | .pure => insVc P (fun v _ => k v w) ρ [] default i
  | .load => insVc P (fun v _ => k v w) ρ [] w0 i
  | .step => insVc P (fun v w' => Mod (fun _ => False) w0 w' ∧ k v w') ρ ds w i

def gateE (P : Program) (w0 : World) (ρ : Env) (ds : List Deferred) (w : World) (i : Ins) (k : Value → World → Prop) : Bool → Prop
  | true => stepE P w0 ρ ds w i k (kindI i)
  | false => k undef w

def vcE (P : Program) (w0 : World) (ds : List Deferred) : List In → (Env → World → Prop) → Env → World → Prop
  | [], K, ρ, w => K ρ w
  | ⟨none, d, i⟩ :: l, K, ρ, w => stepE P w0 ρ ds w i (fun v w' => vcE P w0 ds l K (updO ρ d v) w') (kindI i)
  | ⟨some (s, want), d, i⟩ :: l, K, ρ, w => gateE P w0 ρ ds w i (fun v w' => vcE P w0 ds l K (updO ρ d v) w') (gate (ρ s) want)

theorem loadV_mono {go go' : Value → World → Prop} {w : World} {o : Option Value} (h : loadV go w o) (hk : ∀ v, o = some v → go v w → go' v w) : loadV go' w o := by
  cases o with
  | none => exact h.elim
  | some v => exact hk v rfl h

theorem load_look {w0 : World} {ρ : Env} {i : Ins} {k : Value → Prop} (hi : loadI i = true) (h : insVc P (fun v _ => k v) ρ [] w0 i) : LoadD (Mod (fun _ => False) w0) P ρ i k := by
  cases i with
  | load1 x =>
    simp only [insVc] at h
    cases hx : ev ρ x with
    | pointer a =>
      rw [hx] at h
      cases a with
      | none => exact h.elim
      | some a =>
        obtain ⟨b, o, sp⟩ := a
        cases sp with
        | some _ => exact h.elim
        | none =>
          simp only [load1K] at h
          cases hb : w0.heap[b]? with
          | none => rw [hb] at h; exact h.elim
          | some ob =>
            rw [hb] at h
            cases ob with
            | cells c t f =>
              simp only [loadO] at h
              cases hc : c[o]? with
              | none => rw [hc] at h; exact h.elim
              | some v => rw [hc] at h; exact loadD1 hx (fun W hW => ⟨c, t, f, hW.keep hb id, hc⟩) h
            | _ => exact h.elim
    | _ => rw [hx] at h; exact h.elim
  | loadN m x =>
    simp only [insVc] at h
    cases hx : ev ρ x with
    | pointer a =>
      rw [hx] at h
      cases a with
      | none => exact h.elim
      | some a =>
        obtain ⟨b, o, sp⟩ := a
        cases sp with
        | some _ => exact h.elim
        | none =>
          simp only [loadNK] at h
          cases hb : w0.heap[b]? with
          | none => rw [hb] at h; exact h.elim
          | some ob =>
            rw [hb] at h
            cases ob with
            | cells c t f =>
              simp only [loadNO] at h
              exact loadDN hx (fun W hW => ⟨c, t, f, hW.keep hb id, h.1, rfl⟩) h.2
            | _ => exact h.elim
    | _ => rw [hx] at h; exact h.elim
  | _ => simp [loadI] at hi

theorem loadO_mono {go go' : Value → World → Prop} (hk : ∀ v w', go v w' → go' v w') {w : World} {o : Nat} {ob : Option Obj} (h : loadO go w o ob) : loadO go' w o ob := by
  cases ob with
  | none => exact h.elim
  | some ob =>
    cases ob with
    | cells c t f => exact loadV_mono h (fun v _ hv => hk _ _ hv)
    | _ => exact h.elim

theorem insVc_mono {go go' : Value → World → Prop} (hk : ∀ v w', go v w' → go' v w') {ρ : Env} {ds : List Deferred} {w : World} {i : Ins} (h : insVc P go ρ ds w i) : insVc P go' ρ ds w i := by
  cases i <;> simp only [insVc] at h ⊢
  case mv => exact hk _ _ h
  case pick c a b => unfold pickK at h ⊢; split at h <;> first | exact hk _ _ h | exact h.elim
  case alloc => exact hk _ _ h
  case box => exact hk _ _ h
  case load1 x => unfold load1K at h ⊢; split at h <;> first | exact loadO_mono hk h | exact h.elim
  case loadN m x =>
    unfold loadNK at h ⊢
    split at h
    · unfold loadNO at h ⊢; split at h <;> first | exact ⟨h.1, hk _ _ h.2⟩ | exact h.elim
    · exact h.elim
  case store1 x v =>
    unfold storeK at h ⊢
    split at h
    · unfold storeO at h ⊢; split at h <;> first | exact ⟨h.1, hk _ _ h.2⟩ | exact h.elim
    · exact h.elim
  case storeN m x v =>
    unfold storeNK at h ⊢
    split at h
    · unfold storeNO at h ⊢; split at h <;> first | exact ⟨h.1, hk _ _ h.2⟩ | exact h.elim
    · exact h.elim
  case nilc x => unfold nilK at h ⊢; split at h <;> first | exact hk _ _ h | exact ⟨h.1, hk _ _ h.2⟩ | exact h.elim
  case iop op x y => unfold iopK at h ⊢; split at h <;> first | exact ⟨h.1, loadV_mono h.2 (fun v _ hv => hk _ _ hv)⟩ | exact h.elim
  case sop op x y => unfold sopK at h ⊢; split at h <;> first | exact loadV_mono h (fun v _ hv => hk _ _ hv) | exact h.elim
  case bop neq x y => unfold bopK at h ⊢; split at h <;> first | exact hk _ _ h | exact h.elim
  case pnil k' neq x => unfold pnilK at h ⊢; split at h <;> first | exact hk _ _ h | exact h.elim
  case not x => unfold notK at h ⊢; split at h <;> first | exact hk _ _ h | exact h.elim
  case conv k' x => unfold convK at h ⊢; split at h <;> first | exact hk _ _ h | exact h.elim
  case same x => unfold sameK at h ⊢; split at h <;> first | exact hk _ _ h | exact h.elim
  case mkI t x => exact hk _ _ h
  case mkF fn f c => exact hk _ _ h
  case faddr off x => unfold faddrK at h ⊢; split at h <;> first | exact hk _ _ h | exact h.elim
  case fld1 off x => unfold fld1K at h ⊢; split at h <;> first | exact loadV_mono h (fun v _ hv => hk _ _ hv) | exact h.elim
  case fldN off m x => unfold fldNK at h ⊢; split at h <;> first | exact hk _ _ h | exact h.elim
  case iaddr sz x i => unfold iaddrK at h ⊢; split at h <;> first | exact ⟨h.1, hk _ _ h.2⟩ | exact h.elim
  case iaddrA len sz x i => unfold iaddrAK at h ⊢; split at h <;> first | exact ⟨h.1, hk _ _ h.2⟩ | exact h.elim
  case sidx x i => unfold sidxK at h ⊢; split at h <;> first | exact ⟨h.1, loadV_mono h.2 (fun v _ hv => hk _ _ hv)⟩ | exact h.elim
  case ext x i => unfold extK at h ⊢; split at h <;> first | exact loadV_mono h (fun v _ hv => hk _ _ hv) | exact h.elim
  case lenS x => unfold lenSK at h ⊢; split at h <;> first | exact hk _ _ h | exact h.elim
  case lenL x => unfold lenLK at h ⊢; split at h <;> first | exact hk _ _ h | exact h.elim
  case call f args => exact callK_mono h hk
  case callv x args => exact callvK_mono h hk
  case inv x name args =>
    unfold invK at h ⊢
    split at h
    · obtain ⟨f, y, h1, h2⟩ := h
      exact ⟨f, y, h1, callK_mono h2 hk⟩
    · exact h.elim
  case build zero parts => unfold buildK at h ⊢; split at h <;> first | exact hk _ _ h | exact h.elim
  case buildS t len zero parts => unfold buildSK at h ⊢; split at h <;> first | exact hk _ _ h | exact h.elim
  case slS x lo hi =>
    unfold slSK at h ⊢
    split at h
    · split at h
      · exact ⟨h.1, hk _ _ h.2⟩
      · exact h.elim
    · exact h.elim
  case slL sz x lo hi =>
    unfold slLK at h ⊢
    split at h
    · split at h
      · exact ⟨h.1, hk _ _ h.2⟩
      · exact h.elim
    · exact h.elim
  case slA m sz x lo hi =>
    unfold slAK at h ⊢
    split at h
    · split at h
      · exact ⟨h.1, hk _ _ h.2⟩
      · exact h.elim
    · exact h.elim
  case raw m o => exact upon_mono hk h

theorem stepD_of_E {w0 : World} {ρ : Env} {ds : List Deferred} {w : World} {i : Ins} {k k' : Value → World → Prop} (h : stepE P w0 ρ ds w i k (kindI i)) (hi : ∀ v w', k v w' → k' v w') : stepD P (Mod (fun _ => False) w0) ρ ds w i k' (kindI i) := by
  unfold kindI at h ⊢
  split
  · rename_i hp
    rw [if_pos hp] at h
    exact insVc_mono (fun v _ hv => hi v w hv) h
  · rename_i hp
    rw [if_neg hp] at h
    split
    · rename_i hl
      rw [if_pos hl] at h
      exact load_look hl (insVc_mono (fun v _ hv => hi v w hv) h)
    · rename_i hl
      rw [if_neg hl] at h
      show insVc P (fun v w' => Mod (fun _ => False) w0 w' ∧ k' v w') ρ ds w i
      refine insVc_mono (go := fun v w' => Mod (fun _ => False) w0 w' ∧ k v w') ?_ h
      intro v w' hv
      exact ⟨hv.1, hi v w' hv.2⟩

theorem vcD_of_vcE {w0 : World} {ds : List Deferred} {K : Env → World → Prop} : ∀ (l : List In) (ρ : Env) (w : World), vcE P w0 ds l K ρ w → vcD P (Mod (fun _ => False) w0) ds l K ρ w := by
  intro l
  induction l with
  | nil => intro ρ w h; exact h
  | cons x l ih =>
    intro ρ w h
    obtain ⟨g, d, i⟩ := x
    cases g with
    | none => exact stepD_of_E h (fun v w' hv => ih _ _ hv)
    | some p =>
      obtain ⟨s, want⟩ := p
      simp only [vcE] at h
      simp only [vcD]
      cases hg : gate (ρ s) want with
      | true => rw [hg] at h; exact stepD_of_E h (fun v w' hv => ih _ _ hv)
      | false => rw [hg] at h; exact ih _ _ h

/-- ████ the rule. ████ -/
theorem draw_e {id : Nat} {l : List In} {Q : QT} {ρ : Env} {ds : List Deferred} {w : World} (hm : P.follows .mixedOrders = true) (hB : Region.lexB .any ops = true) (hl : compOps P n ops ops.toList = some l)
    (hS : chainB ops (stepsOf l) = true) (h : vcE P w ds l (fun ρ' w' => Q .normal ρ' ds w') ρ w.drew) : vc P ro n (.draw id ops l) Q ρ ds w :=
  draw_d _ hm hB hl hS (Mod.refl _ _).drew (vcD_of_vcE _ _ _ h)

section
variable {w0 : World} {K : Env → World → Prop} {ρ : Env} {ds : List Deferred} {w : World} {d : Option Nat} {i : Ins} {l : List In} {k : Value → World → Prop}
theorem vcE_nil : vcE P w0 ds [] K ρ w = K ρ w := nr rfl
theorem vcE_cons : vcE P w0 ds (⟨none, d, i⟩ :: l) K ρ w = stepE P w0 ρ ds w i (fun v w' => vcE P w0 ds l K (updO ρ d v) w') (kindI i) := nr rfl
theorem vcE_gate {s : Nat} {want : Bool} : vcE P w0 ds (⟨some (s, want), d, i⟩ :: l) K ρ w = gateE P w0 ρ ds w i (fun v w' => vcE P w0 ds l K (updO ρ d v) w') (gate (ρ s) want) := nr rfl
theorem gateE_true : gateE P w0 ρ ds w i k true = stepE P w0 ρ ds w i k (kindI i) := nr rfl
theorem gateE_false : gateE P w0 ρ ds w i k false = k undef w := nr rfl
theorem stepE_pure : stepE P w0 ρ ds w i k .pure = insVc P (fun v _ => k v w) ρ [] default i := nr rfl
theorem stepE_load : stepE P w0 ρ ds w i k .load = insVc P (fun v _ => k v w) ρ [] w0 i := nr rfl
theorem stepE_step : stepE P w0 ρ ds w i k .step = insVc P (fun v w' => Mod (fun _ => False) w0 w' ∧ k v w') ρ ds w i := nr rfl
end
end Go.Vc
