import Derived.Test.YtbkddpckkgbbmaaGreatDoorTie
import Derived.Test.YtbkddpckkgbbmaaGreatDoorCards
import Derived.Test.YtbkddpckkgbbmaaGreatDoorVpM
import Derived.ProofKit
import Derived.OpenShut
import Derived.LaidMore
import Derived.Lay
import Derived.SevenTiedAt
import Derived.Stop.Joined
import Derived.HandedShaped
import Derived.ChangeMaps5
import Derived.SliceStrings
import Derived.ChangeSlices
import Derived.Carry
import Derived.Shelf.Vars
set_option linter.unusedSimpArgs false
set_option linter.unusedVariables false
set_option linter.unusedSectionVars false
set_option linter.unnecessarySimpa false
namespace Go.Proofs.YtbkddpckkgbbmaaGreatDoor
open Go Go.ChangeShapes Go.WideShapes Go.ChangeAt Go.RowKit
open Go.ChangeMaps (open_string shut_string)
set_option maxRecDepth 100000

theorem Tryz.own : ownKnob Tryz.prog.godebug = none := by kernel_rfl
theorem Tryz.laidOut : laidOutB Tryz.prog = true := by kernel_rfl

/-- the wrap that hands on the world's shape and a condition of the world's beside. -/
theorem shaped_and {H : Type} {enc : TypeId × Value → H} {a : Assume} {C : Checked} {os : Os} {f : FuncId} {fn : Func} {s : ChangeSpec} {conds : List PathCond} {apart fresh handsOn again : Bool} {X : World → Array Value → Prop}
    (hX : ∀ (w w' : World) (args : Array Value), w.heap = w'.heap → X w args → X w' args)
    (own : ownKnob C.prog.godebug = none) (started : os.Started) (noInit : C.prog.inits.idxOf? f = none) (hfn : C.prog.funcs[f]? = some fn)
    (witness : ∃ (w : World) (tape : Tape) (i : Input), w.os = os ∧ (w.forCall tape i).Shaped C.prog ∧ i.vars = [] ∧ Input.okWide C.prog (w.forCall tape i) .any w.heap.size f i ∧
      ((s.pre enc C.prog fn conds apart (w.forCall tape i).memory i.args ∧ X (w.forCall tape i).memory i.args) ∧ sizedMet enc C.prog fn (OpenSpec.ofChange s) apart (w.forCall tape i).memory i.args) ∧ a.holds C.prog (lone (Frame.enter C.prog f i.args .normal) [] (w.forCall tape i)))
    (contract : ∀ (W : World) (base : Nat) (args : Array Value) (ds gs : List (DataW H)) (before : List MemPlace),
      (∀ (j : Nat) t v, fn.params[j]? = some t → args[j]? = some v → Value.okWide C.prog W .any base t v) →
      DataW.Whole enc C.prog fn.params.toList s.vars apart W args.toList ds gs before → X W args → W.ShapedOpen C.prog →
      Calls C.prog f args W fun e W' => ∃ v, e = .returned v ∧ s.post enc C.prog fn apart fresh handsOn again W args v W') :
    ReturnsInHanded a C os f .any (fun w args => (s.pre enc C.prog fn conds apart w args ∧ X w args) ∧ sizedMet enc C.prog fn (OpenSpec.ofChange s) apart w args) (s.post enc C.prog fn apart fresh handsOn again) := by
  refine returnsInHanded_of_calls own started noInit witness ?_
  intro w tape i _ hsh _ hok hpre _
  obtain ⟨_, _, _, fn', hfn', _, _, _, _, hval⟩ := hok
  obtain rfl : fn' = fn := Option.some.inj (hfn'.symm.trans hfn)
  obtain ⟨⟨⟨ds, gs, before, hw, _⟩, hx⟩, _⟩ := hpre
  refine (contract (w.forCall tape i) w.heap.size i.args ds gs before hval (DataW.Whole.of_heap (w' := w.forCall tape i) (by rfl) hw) (hX _ _ _ (by rfl) hx) hsh).mono ?_
  rintro e W' ⟨v, rfl, hp⟩
  exact ChangeSpec.post_blind hp

theorem isSlc_of (W : World) (a : Addr) (len cap : Nat) (vs : List Value) (hlen : vs.length = len) (h : ∀ (i : Nat) x, vs[i]? = some x → W.cell? (a.add i) = some x) : Go.Oct.IsSlc W (.slice (some a) len cap) vs := by
  subst hlen
  refine ⟨⟨some a, cap, rfl⟩, fun i x hx => ?_⟩
  have hc := h i x hx
  obtain ⟨b, off, spot⟩ := a
  have hil : i < vs.length := by
    rcases Nat.lt_or_ge i vs.length with h' | h'
    · exact h'
    · rw [List.getElem?_eq_none h'] at hx; cases hx
  have hspot : spot = none := by simpa [Addr.add] using World.cell?_spot (h 0 (vs[0]'(by omega)) (List.getElem?_eq_getElem _))
  subst hspot
  rw [Addr.add_lit] at hc
  unfold World.cell? at hc
  cases ho : W.heap[b]? with
  | none => rw [ho] at hc; cases hc
  | some o =>
    rw [ho] at hc
    cases o with
    | cells cur t f => exact ⟨b, off, cap, cur, t, f, rfl, ho, by simpa using hc⟩
    | _ => cases hc

theorem cells9 : Tryz.prog.cellsOf 9 = 1 := by kernel_rfl
theorem cells5 : Tryz.prog.cellsOf 5 = 1 := by kernel_rfl
/-- a slice of texts, opened. -/
theorem slc_strings {H : Type} {enc : TypeId × Value → H} {W : World} {v : Value} {d : DataW H} {p : List MemPlace} {base : Nat} (hval : Value.okWide Tryz.prog W .any base 80 v) (h : DataW.Trod enc Tryz.prog W 0 (fun _ => true) true 80 v d p) :
    ∃ l : List ByteArray, Go.Oct.IsSlc W v (l.map .string) := by
  obtain ⟨a0, len, cap, rfl⟩ := okWide_slice Tryz.underlying80 hval
  obtain ⟨fuel, hf⟩ := h
  rcases open_strings Tryz.underlying80 Tryz.underlying9 cells9 hf with ⟨hcs, hx⟩ | ⟨a, len', cap', ss, hcs, _, hl, hm, hz, hx, hcell, hws⟩
  · simp [Value.cells] at hcs
    obtain ⟨rfl, rfl, rfl⟩ := hcs
    exact ⟨[], ⟨none, 0, rfl⟩, fun i x hx => by simp at hx⟩
  · simp [Value.cells] at hcs
    obtain ⟨rfl, rfl, rfl⟩ := hcs
    simp only [if_true] at hz
    refine ⟨ss.take len, isSlc_of W a len cap _ (by simp; omega) ?_⟩
    intro i x hx
    rw [List.getElem?_map, List.getElem?_take] at hx
    by_cases hi : i < len
    · rw [if_pos hi] at hx
      rw [hcell i (by omega)]
      rw [List.getElem?_eq_getElem (by omega)] at hx
      rw [List.getD, List.getElem?_eq_getElem (by omega)]
      exact hx
    · rw [if_neg hi] at hx; cases hx

/-- a slice of bytes, opened. -/
theorem slc_bytes {H : Type} {enc : TypeId × Value → H} {W : World} {v : Value} {d : DataW H} {p : List MemPlace} {base : Nat} (hval : Value.okWide Tryz.prog W .any base 110 v) (h : DataW.Trod enc Tryz.prog W 0 (fun _ => true) true 110 v d p) :
    ∃ l : List Value, Go.Oct.IsSlc W v l := by
  obtain ⟨a0, len, cap, rfl⟩ := okWide_slice Tryz.underlying110 hval
  obtain ⟨fuel, hf⟩ := h
  rcases open_ints Tryz.underlying110 Tryz.underlying5 cells5 hf with ⟨hcs, hx⟩ | ⟨a, len', cap', zs, hcs, _, hl, hm, hz, hx, hcell, hws⟩
  · simp [Value.cells] at hcs
    obtain ⟨rfl, rfl, rfl⟩ := hcs
    exact ⟨[], ⟨none, 0, rfl⟩, fun i x hx => by simp at hx⟩
  · simp [Value.cells] at hcs
    obtain ⟨rfl, rfl, rfl⟩ := hcs
    simp only [if_true] at hz
    refine ⟨(zs.take len).map (.int .u8), isSlc_of W a len cap _ (by simp; omega) ?_⟩
    intro i x hx
    rw [List.getElem?_map, List.getElem?_take] at hx
    by_cases hi : i < len
    · rw [if_pos hi] at hx
      rw [hcell i (by omega)]
      rw [List.getElem?_eq_getElem (by omega)] at hx
      rw [List.getD, List.getElem?_eq_getElem (by omega)]
      exact hx
    · rw [if_neg hi] at hx; cases hx
end Go.Proofs.YtbkddpckkgbbmaaGreatDoor
