import Derived.Test.YtbkddpckkgbbmaaGreatDoorVcT
set_option linter.unusedSimpArgs false
set_option linter.unusedVariables false
set_option linter.unusedSectionVars false
set_option linter.unnecessarySimpa false
namespace Go.Vc
open Go

variable {P : Program} {ro : Option Nat} {n : Nat} {ops : Array Oper} {Fix : World → Prop} {md : Region.Mode} {Q : Act → World → Prop} {S : Nat → Bool}

/-! ### a region with open order whose last step, for which all else comes ahead, may change what the loads looked at -/

def lastB (md : Region.Mode) (ops : Array Oper) : Bool :=
  ((List.range ops.size).all fun j => match ops[j]? with | some o => o.after.all (fun e => !Region.binds md e || decide (e.on < j)) | none => true) &&
  (List.range (ops.size - 1)).all fun j => (List.range ops.size).any fun p => decide (j < p) && match ops[p]? with | some o => o.after.any (fun e => Region.binds md e && e.on == j) | none => false

theorem lastB_back (h : lastB md ops = true) {j : Nat} {o : Oper} (ho : ops[j]? = some o) {e} (he : e ∈ o.after) (hb : Region.binds md e = true) : e.on < j := by
  have hj : j < ops.size := (Array.getElem?_eq_some_iff.1 ho).1
  unfold lastB at h
  simp only [Zbo, List.all_eq_true] at h
  have := h.1 j (List.mem_range.2 hj)
  simp only [ho] at this
  have h2 := (Array.all_eq_true_iff_forall_mem.1 this) e he
  simpa [hb] using h2
theorem lastB_need (h : lastB md ops = true) {j : Nat} (hj : j + 1 < ops.size) : ∃ p o e, j < p ∧ ops[p]? = some o ∧ e ∈ o.after ∧ Region.binds md e = true ∧ e.on = j := by
  unfold lastB at h
  simp only [Zbo, List.all_eq_true] at h
  have := h.2 j (List.mem_range.2 (by omega))
  obtain ⟨p, _, hp⟩ := List.any_eq_true.1 this
  simp only [Zbo, decide_eq_true_eq] at hp
  obtain ⟨h1, h2⟩ := hp
  cases ho : ops[p]? with
  | none => rw [ho] at h2; cases h2
  | some o =>
    rw [ho] at h2
    obtain ⟨e, he, hb⟩ := Array.any_eq_true'.1 h2
    simp only [Zbo, beq_iff_eq] at hb
    exact ⟨p, o, e, h1, ho, he, hb.1, hb.2⟩

/-- what is listed has all that it waits for listed. -/
def Closed (md : Region.Mode) (ops : Array Oper) (listed : Array Bool) : Prop :=
  ∀ p o, ops[p]? = some o → listed.getD p true = true → ∀ e ∈ o.after, Region.binds md e = true → listed.getD e.on false = true

theorem getD_tf {listed : Array Bool} {j : Nat} (hj : j < listed.size) : listed.getD j true = listed.getD j false := by
  simp [hj]
theorem closed_step {listed : Array Bool} (h : Closed md ops listed) {i : Nat} (hi : i ∈ Region.ready md ops listed) : Closed md ops (listed.setIfInBounds i true) := by
  intro p o ho hp e he hb
  obtain ⟨_, oi, hoi, hall⟩ := mem_ready.1 hi
  by_cases hpi : i = p
  · subst hpi
    rw [ho] at hoi
    obtain rfl := Option.some.inj hoi
    exact getD_set_true (hall e he hb)
  · rw [getD_set_ne true hpi] at hp
    exact getD_set_true (h p o ho hp e he hb)
theorem ready_ne {listed : Array Bool} (hB : lastB md ops = true) (hs : listed.size = ops.size) : ∀ (j : Nat), j < ops.size → listed.getD j true = false → Region.ready md ops listed ≠ [] := by
  intro j
  induction j using Nat.strongRecOn with
  | _ j ih =>
    intro hj hu
    obtain ⟨o, ho⟩ : ∃ o, ops[j]? = some o := ⟨_, Array.getElem?_eq_getElem hj⟩
    by_cases hall : ∀ e ∈ o.after, Region.binds md e = true → listed.getD e.on false = true
    · intro h
      have : j ∈ Region.ready md ops listed := mem_ready.2 ⟨hu, o, ho, hall⟩
      rw [h] at this; cases this
    · have : ∃ e, e ∈ o.after ∧ Region.binds md e = true ∧ ¬ listed.getD e.on false = true := by
        refine Classical.byContradiction fun hc => hall fun e he hb => ?_
        refine Classical.byContradiction fun hd => hc ⟨e, he, hb, hd⟩
      obtain ⟨e, he, hb, hd⟩ := this
      have hlt := lastB_back hB ho he hb
      refine ih e.on hlt (by omega) ?_
      rw [getD_tf (by omega)]
      simpa using hd
theorem last_ready {listed : Array Bool} {L : Nat} (hB : lastB md ops = true) (hL : L + 1 = ops.size) (hs : listed.size = ops.size) (hc : Closed md ops listed) (hr : L ∈ Region.ready md ops listed) : ∀ (d j : Nat), L - j = d → j < L → listed.getD j true = true := by
  intro d
  induction d using Nat.strongRecOn with
  | _ d ih =>
    intro j hd hj
    obtain ⟨p, o, e, h1, h2, h3, h4, h5⟩ := lastB_need hB (show j + 1 < ops.size by omega)
    have hp : p < ops.size := (Array.getElem?_eq_some_iff.1 h2).1
    rw [getD_tf (by omega), ← h5]
    by_cases hpL : p = L
    · subst hpL
      obtain ⟨_, oL, hoL, hall⟩ := mem_ready.1 hr
      rw [h2] at hoL
      obtain rfl := Option.some.inj hoL
      exact hall e h3 h4
    · have := ih (L - p) (by omega) p rfl (by omega)
      exact hc p o h2 this e h3 h4

theorem wpAnyIn_last {L : Nat} {Q' : Exit → Act → World → Prop} (hB : lastB md ops = true) (hL : L + 1 = ops.size) (hQ : ∀ a w, Fix w → Q a w → wpOpIn (FW ro) 0 P ops Q' L (fun a w => Q' .normal a w) a w) :
    ∀ (fuel : Nat) (listed : Array Bool) (a : Act) (w : World), listed.size = ops.size → listed.getD L true = false → Closed md ops listed → Fix w →
      wpAnyD P md ops Fix S Q fuel (listed.setIfInBounds L true) a w → wpAnyIn (FW ro) 0 P md ops Q' (fuel + 1) listed a w := by
  intro fuel
  induction fuel with
  | zero =>
    intro listed a w hs hu hc hw h
    refine ⟨fun h0 => absurd h0 (ready_ne hB hs L (by omega) hu), fun i hi => ?_⟩
    by_cases hiL : i = L
    · subst hiL
      exact wpOpIn_mono (fun a w hq => ⟨h.1, hq⟩) (hQ a w hw h.2)
    · have := ready_mono hi hiL
      rw [h.1] at this; cases this
  | succ fuel ih =>
    intro listed a w hs hu hc hw h
    refine ⟨fun h0 => absurd h0 (ready_ne hB hs L (by omega) hu), fun i hi => ?_⟩
    by_cases hiL : i = L
    · subst hiL
      have hnil : Region.ready md ops (listed.setIfInBounds i true) = [] := by
        refine List.eq_nil_iff_forall_not_mem.2 fun j hj => ?_
        obtain ⟨h1, o, ho, _⟩ := mem_ready.1 hj
        have hjs : j < ops.size := (Array.getElem?_eq_some_iff.1 ho).1
        by_cases hji : i = j
        · subst hji
          simp [show i < listed.size by omega] at h1
        · rw [getD_set_ne true hji, last_ready hB hL hs hc hi _ j rfl (by omega)] at h1
          cases h1
      exact wpOpIn_mono (fun a w hq => ⟨fun _ => hq, fun j hj => by rw [hnil] at hj; cases hj⟩) (hQ a w hw (h.1 hnil))
    · have hi' := ready_mono hi hiL
      have hq := h.2 i hi'
      have hu' : (listed.setIfInBounds i true).getD L true = false := by rw [getD_set_ne true hiL]; exact hu
      have hs' : (listed.setIfInBounds i true).size = ops.size := by rw [Array.size_setIfInBounds]; exact hs
      have hc' := closed_step hc hi
      have hcomm : (listed.setIfInBounds L true).setIfInBounds i true = (listed.setIfInBounds i true).setIfInBounds L true := Array.setIfInBounds_comm _ _ (Ne.symm hiL)
      rw [hcomm] at hq
      unfold dOp at hq
      unfold wpOpIn
      split
      · rename_i ho; simp only [ho] at hq; exact ih _ _ _ hs' hu' hc' hw hq
      · rename_i o ho
        simp only [ho] at hq
        split
        · rename_i hwt
          simp only [hwt, Zac] at hq
          by_cases hsi : S i = true
          · rw [if_pos hsi] at hq
            exact wpIn_of_upon (upon_mono (fun v w' x => ih _ _ _ hs' hu' hc' x.1 x.2) hq)
          · rw [if_neg hsi] at hq
            obtain ⟨u, h1, h2⟩ := hq
            refine wpIn_of_upon ?_
            rcases h1 w hw with e | ⟨e, rfl⟩
            · rw [e]; exact ih _ _ _ hs' hu' hc' hw h2
            · rw [e]; exact ih _ _ _ hs' hu' hc' hw h2
        · rename_i hwt; simp only [hwt] at hq
          exact ⟨fun f _ => trivial, ih _ _ _ hs' hu' hc' hw hq⟩

def waitB2 (md : Region.Mode) (ops : Array Oper) (S : Nat → Bool) (k : Nat) (listed : Array Bool) : Bool :=
  let W := reach md ops k (ops.size - 1 - (k + 1)) (k + 1) []
  (W.all fun p => !listed.getD p false) &&
  (W.all fun p => match ops[p]? with | some o => o.after.any (fun e => Region.binds md e && (e.on == k || W.contains e.on)) | none => true) &&
  (List.range listed.size).all fun j => j == k || !S j || listed.getD j true || W.contains j
def lexD2 (md : Region.Mode) (ops : Array Oper) (S : Nat → Bool) : Nat → Nat → Array Bool → Bool
  | 0, _, _ => true
  | f + 1, k, listed => (!S k || waitB2 md ops S k listed) && lexD2 md ops S f (k + 1) (listed.setIfInBounds k true)
theorem waits_of_waitB2 {k : Nat} {listed : Array Bool} (h : waitB2 md ops S k listed = true) : Waits md ops S k listed (fun p => p ∈ reach md ops k (ops.size - 1 - (k + 1)) (k + 1) []) := by
  unfold waitB2 at h
  simp only [Zbo, List.all_eq_true] at h
  obtain ⟨⟨h1, h2⟩, h3⟩ := h
  refine ⟨fun p hp => by simpa using h1 p hp, fun p o hp ho => ?_, fun j hj hne hun => ?_⟩
  · have := h2 p hp
    simp only [ho] at this
    obtain ⟨e, he, hb⟩ := Array.any_eq_true'.1 this
    simp only [Zbo, Zch, beq_iff_eq, Zck] at hb
    exact ⟨e, he, hb.1, hb.2⟩
  · rcases Nat.lt_or_ge j listed.size with h' | h'
    · have := h3 j (List.mem_range.2 h')
      simp only [Zch, beq_iff_eq, hne, false_or, hj, Bool.not_true, Bool.false_eq_true, hun, Zck] at this
      exact this
    · simp [Array.getElem?_eq_none h'] at hun

theorem wpAnyD_lex' (hs : Region.noSelect ops = true) : ∀ (f k : Nat) (listed : Array Bool) (a : Act) (w : World), Fix w → k + f ≤ ops.size → Region.lexFrom md ops f k listed = true → lexD2 md ops S f k listed = true →
    walkD P ops Fix S Q f k a w → wpAnyD P md ops Fix S Q f listed a w
  | 0, _, _, _, _, _, _, hB, _, h => ⟨by simpa [Region.lexFrom] using hB, h⟩
  | f + 1, k, listed, a, w, hw, hk, hB, hD, h => by
    obtain ⟨o, ho⟩ : ∃ o, ops[k]? = some o := ⟨_, Array.getElem?_eq_getElem (by omega)⟩
    simp only [Region.lexFrom, Zbo] at hB
    obtain ⟨⟨hr, hf⟩, hB'⟩ := hB
    simp only [lexD2, Zbo, Zch, Bool.not_eq_true'] at hD
    refine wpAnyD_first (W := fun p => p ∈ reach md ops k (ops.size - 1 - (k + 1)) (k + 1) []) ho (Region.noSelect_spec hs) f listed a w hw (Region.free_spec ho hf) (by simpa using hr) ?_ ?_
    · intro hsk
      rcases hD.1 with h' | h'
      · rw [hsk] at h'; cases h'
      · exact waits_of_waitB2 h'
    · exact dOp_mono hw (fun a' w' hw' h' => wpAnyD_lex' hs f (k + 1) _ a' w' hw' (by omega) hB' hD.2 h') h

theorem compOps_append : ∀ (a b : List Oper) (l : List In), compOps P n ops (a ++ b) = some l → ∃ la lb, compOps P n ops a = some la ∧ compOps P n ops b = some lb ∧ l = la ++ lb ∧ la.length = a.length := by
  intro a
  induction a with
  | nil => intro b l h; exact ⟨[], l, rfl, h, rfl, rfl⟩
  | cons o a ih =>
    intro b l h
    simp only [Zap, compOps] at h
    split at h
    · rename_i g l' hg hl'
      simp at h; subst h
      obtain ⟨la, lb, h1, h2, rfl, h3⟩ := ih b l' hl'
      exact ⟨⟨g, o.dst, compOp P n o⟩ :: la, lb, by simp only [compOps, hg, h1], h2, rfl, by simp [h3]⟩
    · contradiction

def ready0 (ops : Array Oper) : Array Bool := (Array.replicate ops.size false).setIfInBounds (ops.size - 1) true
def lexLast (md : Region.Mode) (ops : Array Oper) : Bool := Region.noSelect ops && Region.lexFrom md ops (ops.size - 1) 0 (ready0 ops)
def chainLast (ops : Array Oper) (S : Nat → Bool) : Bool := lexD2 .any ops S (ops.size - 1) 0 (ready0 ops)

end Go.Vc

namespace Go.Vc
open Go

variable {P : Program} {go : Value → World → Prop} {ρ : Env} {ds : List Deferred} {n : Nat} {w : World} {o : Oper}

/-! ### a slice cut to its own length, as 'l[:len(l):len(l)]' does, and append to it: always a new block -/

def capV : Value → Value
  | .slice a n _ => .slice a n n
  | v => v

theorem rawK_slice3 {t e : TypeId} {sz : Nat} {x hi mx : Operand} {a : Option Addr} {k cap : Nat} {kh km : IntKind} (ho : o.op = .slice t x none (some hi) (some mx)) (hx : inB n x = true) (hhi : inB n hi = true) (hmx : inB n mx = true)
    (hs : P.underlying t = some (.slice e)) (hse : csz P e = some sz) (ex : ev ρ x = .slice a k cap) (eh : ev ρ hi = .int kh (k : Nat)) (em : ev ρ mx = .int km (k : Nat)) (hk : k ≤ cap) (ha : a.map (·.add 0) = a) (h : go (.slice a k k) w) : RawK P go ρ ds n o w := by
  unfold RawK
  simp only [execOp, ho, Zbn, Zbk, mkA_eval n ρ ds x hx, mkA_eval n ρ ds hi hhi, mkA_eval n ρ ds mx hmx, ex, eh, em]
  refine upon_v ⟨_, w, ?_, h⟩
  have hb1 : (0 : Int) ≤ (k : Int) ∧ (k : Int) ≤ (cap : Int) := by omega
  have hb2 : (0 : Int) ≤ (k : Int) ∧ (k : Int) ≤ (k : Int) := by omega
  simp [Instr.sliceAt, Instr.slice, Instr.sliceBounds, Instr.sliceBound, asIntOf, Sem.run_bind, run_underlying hs, Result.andThen, run_sizeOf hse, pure, Sem.run, hb1, ha]

theorem run_append_capped (base : Nat) (t tx ty e : TypeId) (i : TypeInfo) (z : Value) (size : Nat) (ht : P.underlying t = some (.slice e)) (hi : P.info? e = some i) (hz : i.zero = some z)
    (hsize : i.size = size) (hzs : z.cells.size = size) (hsz : 0 < size)
    (v : Value) (n : Nat) (xs : List Value) (hown : w.ownsRow base e size v n xs) (x : Value) (m : Nat) (news : List Value) (hsrc : Src P size tx x m news w) (hm : 0 < m)
    (h63 : n + m ≤ maxLen) (hbytes : (n + m) * i.bytes ≤ 140737488355328) :
    ∃ v' w', (Builtin.append_ #[t, tx] ty #[capV v, x]).run P w = .ok v' w' ∧ w'.ownsRow w.heap.size e size v' (n + m) (xs ++ news) ∧ Mod (fun _ => False) w w' ∧ v'.ownBlock = some w.heap.size := by
  subst hsize
  have hl := hsrc.newsLen
  have hsmall : n + m ≤ 9223372036854775807 := by simp only [maxLen] at h63; omega
  have hlen : (xs ++ news).length = (n + m) * i.size := by rw [List.length_append, hown.1, hl, Nat.add_mul]
  have grown : ∀ (old : Nat), old < n + m →
      (w.drew.alloc (.cells ((xs ++ news).toArray ++ Builtin.zeroCells z.cells (grownCap w (n + m) old e - (n + m))) e)).ownsRow w.heap.size e i.size
        (.slice (some ⟨w.heap.size, 0, none⟩) (n + m) (grownCap w (n + m) old e)) (n + m) (xs ++ news) ∧
      Mod (fun _ => False) w (w.drew.alloc (.cells ((xs ++ news).toArray ++ Builtin.zeroCells z.cells (grownCap w (n + m) old e - (n + m))) e)) := by
    intro old ho
    have hge := grownCap_ge w (n + m) old e
    have hcm : grownCap w (n + m) old e ≤ maxLen := grownCap_le_maxLen w (n + m) old e h63
    refine ⟨⟨hlen, .inr ⟨w.heap.size, _, _, rfl, Nat.le_refl _, heap_alloc_new w.drew _, hge, hcm, ?_, ?_⟩⟩, (Mod.refl _ w).drew.alloc _⟩
    · simp only [Array.size_append, Zak, size_zeroCells, hzs, hlen, ← Nat.add_mul]
      congr 1
      omega
    · simp only [Zcj]
      rw [← hlen]
      exact List.take_left
  rcases hown.2 with ⟨rfl, rfl⟩ | ⟨g, cap, cur, rfl, hbg, hg, hnc, hcm, hcs, htake⟩
  · have hx : xs = [] := List.eq_nil_of_length_eq_zero (by simpa using hown.1)
    subst hx
    have hr := run_append_grow_src (P := P) w t tx ty e i z ht hi hz none 0 0 [] (run_firstCells_none w.drew i.size 0 0 0) x m news hsrc (by omega) (by omega) (growslice_fits (by omega) hbytes)
    have hgr := grown 0 (by omega)
    simp only [Zaa] at hgr hr ⊢
    exact ⟨_, _, hr, hgr.1, hgr.2, rfl⟩
  · have holds : ∀ j u, xs[j]? = some u → w.drew.cell? ((⟨g, 0, none⟩ : Addr).add j) = some u := by
      intro j u hj; have := hown.cells (g := g) rfl j u hj; simpa using this
    have hr := run_append_grow_src (P := P) w t tx ty e i z ht hi hz (some ⟨g, 0, none⟩) n n xs (run_firstCells_some (P := P) w.drew i.size n ⟨g, 0, none⟩ n n xs hown.1 holds) x m news hsrc (by omega) (by omega) (growslice_fits (by omega) hbytes)
    have hgr := grown n (by omega)
    exact ⟨_, _, hr, hgr.1, hgr.2, rfl⟩

theorem last_split {α : Type} : ∀ (l : List α) (x : α), l.getLast? = some x → l = l.dropLast ++ [x] := by
  intro l
  induction l with
  | nil => intro x h; cases h
  | cons a l ih =>
    intro x h
    cases l with
    | nil => simp at h; rw [h]; rfl
    | cons b l =>
      have := ih x (by simpa using h)
      show a :: b :: l = a :: ((b :: l).dropLast ++ [x])
      rw [← this]
end Go.Vc

namespace Go.Vc
open Go

variable {P : Program} {ro : Option Nat} {n : Nat} {ops : Array Oper} {Fix : World → Prop} {md : Region.Mode} {Q : Act → World → Prop} {S : Nat → Bool}

/-! ### the same with slice expressions that look at no world -/

def sliceI : Ins → Bool
  | .raw _ o => (match o.op with | .slice .. => true | _ => false)
  | _ => false
def lookI (i : Ins) : Bool := loadI i || sliceI i
def kindF (i : Ins) : Kind := if pureI i then .pure else if lookI i then .load else .step
def isStepF (x : In) : Bool := !(pureI x.i) && !(lookI x.i)
def stepsF (l : List In) (k : Nat) : Bool := ((l[k]?).map isStepF).getD false

def gateF (P : Program) (Fix : World → Prop) (ρ : Env) (ds : List Deferred) (w : World) (i : Ins) (k : Value → World → Prop) : Bool → Prop
  | true => stepD P Fix ρ ds w i k (kindF i)
  | false => k undef w

def vcF (P : Program) (Fix : World → Prop) (ds : List Deferred) : List In → (Env → World → Prop) → Env → World → Prop
  | [], K, ρ, w => K ρ w
  | ⟨none, d, i⟩ :: l, K, ρ, w => stepD P Fix ρ ds w i (fun v w' => vcF P Fix ds l K (updO ρ d v) w') (kindF i)
  | ⟨some (s, want), d, i⟩ :: l, K, ρ, w => gateF P Fix ρ ds w i (fun v w' => vcF P Fix ds l K (updO ρ d v) w') (gate (ρ s) want)

def isSliceOp : Op → Bool
  | .slice .. => true
  | _ => false
def sliceOk (P : Program) (n : Nat) (ops : Array Oper) : Bool := ops.toList.all fun o => !sliceI (compOp P n o) || isSliceOp o.op

theorem val_look {o : Oper} {ρ : Env} {ds : List Deferred} {v : Value} (hso : sliceI (compOp P n o) = true → isSliceOp o.op = true) (hk : lookI (compOp P n o) = true)
    (h : ∀ w, Fix w → insVc P (fun v' w' => w' = w ∧ v' = v) ρ [] w (compOp P n o)) : Val P Fix o (mkA n ρ ds) v := by
  by_cases hl : loadI (compOp P n o) = true
  · exact val_of_ins (.inr hl) h
  have hs : sliceI (compOp P n o) = true := by
    unfold lookI at hk
    cases hx : loadI (compOp P n o) with
    | true => exact absurd hx hl
    | false => simpa [hx] using hk
  intro w hw
  have h1 := sound_ins (P := P) (ds := []) n o (h w hw)
  have hev : (mkA n ρ ds).eval = (mkA n ρ []).eval := by funext x; cases x <;> rfl
  rw [hev]
  have hop := hso hs
  have h2 : NoEnter ((execOp (mkA n ρ []).eval o).run P w) := noEnter_of (by unfold isSliceOp at hop; split at hop <;> first | (rename_i e; rw [e]; trivial) | cases hop) w
  revert h1 h2
  generalize (execOp (mkA n ρ []).eval o).run P w = r
  intro h1 h2
  match r, h1, h2 with
  | .ok (.value u) w', h1, _ => obtain ⟨rfl, rfl⟩ := h1; exact .inl rfl
  | .ok .skip w', h1, _ => obtain ⟨rfl, h⟩ := h1; exact .inr ⟨rfl, h.symm⟩

theorem walkD_of_vcF {K : Env → World → Prop} {ds : List Deferred} (hK : ∀ ρ w, Fix w → K ρ w → Q (mkA n ρ ds) w) {li0 : List In} : ∀ (l : List Oper) (k : Nat) (li : List In), (∀ o, o ∈ l → sliceI (compOp P n o) = true → isSliceOp o.op = true) → (∀ j, j < l.length → l[j]? = ops[k + j]?) → (∀ j, j < l.length → li[j]? = li0[k + j]?) →
    compOps P n ops l = some li → ∀ ρ w, Fix w → vcF P Fix ds li K ρ w → walkD P ops Fix (stepsF li0) Q l.length k (mkA n ρ ds) w := by
  intro l
  induction l with
  | nil => intro k li _ _ _ hc ρ w hw h; simp [compOps] at hc; subst hc; exact hK ρ w hw h
  | cons o l ih =>
    intro k li hso hl hli hc ρ w hw h
    simp only [compOps] at hc
    split at hc
    · rename_i g l' hg hl'
      simp at hc; subst hc
      have h0 : ops[k]? = some o := by simpa using (hl 0 (by simp)).symm
      have hS : stepsF li0 k = isStepF ⟨g, o.dst, compOp P n o⟩ := by
        have := hli 0 (by simp)
        simp only [Za, Nat.add_zero] at this
        simp [stepsF, ← this]
      have hl2 : ∀ j, j < l.length → l[j]? = ops[k + 1 + j]? := fun j hj => by have := hl (j + 1) (by rw [List.length_cons]; omega); simpa [Nat.add_assoc, Nat.add_comm 1 j] using this
      have hli2 : ∀ j, j < l.length → l'[j]? = li0[k + 1 + j]? := fun j hj => by have := hli (j + 1) (by rw [List.length_cons]; omega); simpa [Nat.add_assoc, Nat.add_comm 1 j] using this
      have next : ∀ v w', Fix w' → vcF P Fix ds l' K (updO ρ o.dst v) w' → walkD P ops Fix (stepsF li0) Q l.length (k + 1) ((mkA n ρ ds).put o.dst v) w' := by
        intro v w' hw' hv
        rw [mkA_put]
        exact ih (k + 1) l' (fun o' ho' => hso o' (List.mem_cons_of_mem _ ho')) hl2 hli2 hl' _ _ hw' hv
      have hwg := wanted_gate (ρ := ρ) (ds := ds) hg
      have main : gateF P Fix ρ ds w (compOp P n o) (fun v w' => vcF P Fix ds l' K (updO ρ o.dst v) w') (gateOf ρ g) → walkD P ops Fix (stepsF li0) Q (o :: l).length k (mkA n ρ ds) w := by
        intro hgd
        simp only [Zai, walkD]
        unfold dOp
        simp only [h0, hwg]
        cases hgt : gateOf ρ g with
        | false =>
          rw [hgt] at hgd
          simp only [Bool.false_eq_true, Zaf]
          exact next undef w hw hgd
        | true =>
          rw [hgt] at hgd
          simp only [Zac, hS]
          simp only [gateF, kindF] at hgd
          by_cases hp : pureI (compOp P n o) = true
          · rw [if_pos hp] at hgd
            rw [if_neg (by simp [isStepF, hp])]
            obtain ⟨v, e, kv⟩ := pure_step (k := fun v => vcF P Fix ds l' K (updO ρ o.dst v) w) hp hgd
            exact ⟨v, val_of_ins (.inl hp) fun w' _ => e w', next v w hw kv⟩
          · rw [if_neg hp] at hgd
            by_cases hld : lookI (compOp P n o) = true
            · rw [if_pos hld] at hgd
              rw [if_neg (by simp [isStepF, hld])]
              obtain ⟨v, e, kv⟩ := hgd
              exact ⟨v, val_look (hso o (List.mem_cons_self ..)) hld e, next v w hw kv⟩
            · rw [if_neg hld] at hgd
              rw [if_pos (by simp [isStepF, hp, hld])]
              have hgd' : insVc P (fun v w' => Fix w' ∧ vcF P Fix ds l' K (updO ρ o.dst v) w') ρ ds w (compOp P n o) := hgd
              exact upon_mono (fun v w' x => ⟨x.1, next v w' x.1 x.2⟩) (sound_ins n o hgd')
      cases g with
      | none => exact main h
      | some p => obtain ⟨s, want⟩ := p; exact main h
    · contradiction

/-- ████ the last step of a region may change what its loads look at, if all else comes ahead of it. ████ -/
theorem draw_z (Fix : World → Prop) {id : Nat} {l : List In} {li : List In} {d : Option Nat} {i : Ins} {Q : QT} {ρ : Env} {ds : List Deferred} {w : World} (hm : P.follows .mixedOrders = true) (hSO : sliceOk P n ops = true) (hLB : lastB .any ops = true) (hB : lexLast .any ops = true) (hl : compOps P n ops ops.toList = some l)
    (hli : l = li ++ [⟨none, d, i⟩]) (hS : chainLast ops (stepsF l) = true) (hC : Fix w.drew) (h : vcF P Fix ds li (fun ρ' w' => insVc P (fun v w'' => Q .normal (updO ρ' d v) ds w'') ρ' ds w' i) ρ w.drew) : vc P ro n (.draw id ops l) Q ρ ds w := by
  have hlen : l.length = ops.size := by
    obtain ⟨la, lb, h1, h2, h3, h4⟩ := compOps_append ops.toList [] l (by simpa using hl)
    simp [compOps] at h2
    subst h2
    rw [h3, List.append_nil, h4, Array.length_toList]
  have hsz : li.length + 1 = ops.size := by rw [← hlen, hli]; simp
  obtain ⟨oL, hoL⟩ : ∃ oL, ops[li.length]? = some oL := ⟨_, Array.getElem?_eq_getElem (by omega)⟩
  have hsplit : ops.toList = ops.toList.take li.length ++ [oL] := by
    have : ops.toList.drop li.length = [oL] := by
      rw [List.drop_eq_getElem?_toList_append, Array.getElem?_toList, hoL, List.drop_eq_nil_of_le (by rw [Array.length_toList]; omega)]; rfl
    rw [← this, List.take_append_drop]
  rw [hsplit] at hl
  obtain ⟨la, lb, h1, h2, h3, h4⟩ := compOps_append _ _ _ hl
  have hlal : la.length = li.length := by rw [h4, List.length_take, Array.length_toList (xs := ops)]; omega
  rw [hli] at h3
  obtain ⟨e1, e2⟩ := List.append_inj h3 hlal.symm
  subst e1
  simp only [compOps] at h2
  split at h2
  rotate_left
  · contradiction
  rename_i g l' hg hl'
  simp at hl'
  subst hl'
  simp at h2
  rw [← e2] at h2
  simp only [List.cons.injEq, and_true, In.mk.injEq] at h2
  obtain ⟨hg0, hd, hi⟩ := h2
  subst hg0
  intro t
  simp only [Region.schedule, hm, Bool.true_or, Zac]
  refine wpAnyIn_sound ops.size t _ _ _ ?_
  simp only [lexLast, Zbo] at hB
  rw [← hsz]
  have hrep : (Array.replicate (li.length + 1) false).size = ops.size := by rw [Array.size_replicate, hsz]
  refine wpAnyIn_last (Fix := Fix) (S := stepsF l) (Q := fun a w' => upon P (fun v w'' => lift n Q .normal (a.put oL.dst v) w'') ((execOp a.eval oL).run P w') ∧ Region.wanted oL (yielded ops a.tmps) = true) (L := li.length) hLB hsz ?_ li.length _ _ _ hrep (by simp) ?_ hC ?_
  · rintro a w' _ ⟨hq, hw⟩
    unfold wpOpIn
    simp only [hoL, hw, Zac]
    exact wpIn_of_upon hq
  · intro p o ho hp e he hb
    have hps : p < li.length + 1 := by rw [hsz]; exact (Array.getElem?_eq_some_iff.1 ho).1
    simp [hps] at hp
  · have hr0 : (Array.replicate (li.length + 1) false).setIfInBounds li.length true = ready0 ops := by unfold ready0; rw [← hsz]; rfl
    rw [hr0]
    have hk : ops.size - 1 = li.length := by omega
    have hB2 := hB.2
    rw [hk] at hB2
    have hS' := hS
    unfold chainLast at hS'
    rw [hk] at hS'
    refine wpAnyD_lex' hB.1 li.length 0 _ _ _ hC (by omega) hB2 hS' ?_
    have htl : (ops.toList.take li.length).length = li.length := by rw [List.length_take, Array.length_toList (xs := ops)]; omega
    have hw := walkD_of_vcF (P := P) (ops := ops) (Fix := Fix) (n := n) (ds := ds) (Q := fun a w' => upon P (fun v w'' => lift n Q .normal (a.put oL.dst v) w'') ((execOp a.eval oL).run P w') ∧ Region.wanted oL (yielded ops a.tmps) = true)
      (K := fun ρ' w' => insVc P (fun v w'' => Q .normal (updO ρ' d v) ds w'') ρ' ds w' i) ?_ (li0 := l) (ops.toList.take li.length) 0 li (fun o ho hs => by have := List.all_eq_true.1 hSO o (List.mem_of_mem_take ho); simpa [hs] using this) ?_ ?_ h1 ρ w.drew hC h
    · rw [htl] at hw; exact hw
    · intro ρ' w' _ hk'
      have hwg := wanted_gate (ρ := ρ') (ds := ds) hg
      refine ⟨?_, by rw [hwg]; rfl⟩
      rw [← hi] at hk'
      refine upon_mono (fun v w'' x => ?_) (sound_ins n oL hk')
      rw [mkA_put, hd]
      exact ⟨_, _, rfl, x⟩
    · intro j hj
      rw [List.getElem?_take, if_pos (by omega), Array.getElem?_toList, Nat.zero_add]
    · intro j hj
      rw [hli, Nat.zero_add, List.getElem?_append_left (by omega)]
theorem draw_z' {ops : Array Oper} {ro : Option Nat} (Fix : World → Prop) {id : Nat} {l : List In} {d : Option Nat} {i : Ins} {Q : QT} {ρ : Env} {ds : List Deferred} {w : World} (hm : P.follows .mixedOrders = true) (hSO : sliceOk P n ops = true) (hLB : lastB .any ops = true) (hB : lexLast .any ops = true) (hl : compOps P n ops ops.toList = some l)
    (hS : chainLast ops (stepsF l) = true) (hli : l.getLast? = some ⟨none, d, i⟩) (hC : Fix w.drew) (h : vcF P Fix ds l.dropLast (fun ρ' w' => insVc P (fun v w'' => Q .normal (updO ρ' d v) ds w'') ρ' ds w' i) ρ w.drew) : vc P ro n (.draw id ops l) Q ρ ds w :=
  draw_z Fix hm hSO hLB hB hl (last_split _ _ hli) hS hC h

section
variable {K : Env → World → Prop} {ρ : Env} {ds : List Deferred} {w : World} {d : Option Nat} {i : Ins} {l : List In} {k : Value → World → Prop}
theorem vcF_nil : vcF P Fix ds [] K ρ w = K ρ w := nr rfl
theorem vcF_cons : vcF P Fix ds (⟨none, d, i⟩ :: l) K ρ w = stepD P Fix ρ ds w i (fun v w' => vcF P Fix ds l K (updO ρ d v) w') (kindF i) := nr rfl
/-- 'x[:k:k]' of a slice of k things. -/
theorem slice3D {t e : TypeId} {sz : Nat} {x hi mx : Operand} {a : Option Addr} {m c cap : Nat} {kh km : IntKind} {o : Oper} {k : Value → Prop} (ho : o.op = .slice t x none (some hi) (some mx)) (hx : inB m x = true) (hhi : inB m hi = true) (hmx : inB m mx = true)
    (hs : P.underlying t = some (.slice e)) (hse : csz P e = some sz) (ex : ev ρ x = .slice a c cap) (eh : ev ρ hi = .int kh (c : Nat)) (em : ev ρ mx = .int km (c : Nat)) (hk : c ≤ cap) (ha : a.map (·.add 0) = a) (h : k (.slice a c c)) : LoadD Fix P ρ (.raw m o) k :=
  ⟨.slice a c c, fun w _ => rawK_slice3 (go := fun v' w' => w' = w ∧ v' = .slice a c c) ho hx hhi hmx hs hse ex eh em hk ha ⟨rfl, rfl⟩, h⟩
end
end Go.Vc
