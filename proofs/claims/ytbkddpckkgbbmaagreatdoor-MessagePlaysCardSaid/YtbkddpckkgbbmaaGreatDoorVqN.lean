import Derived.Test.YtbkddpckkgbbmaaGreatDoorVqJ
import Derived.Laws.StructEq
set_option linter.unusedSimpArgs false
set_option linter.unusedVariables false
set_option linter.unusedSectionVars false
set_option linter.unnecessarySimpa false
namespace Go.Oct
open Go Go.Vc Go.VrA Go.VrB Go.VrC
set_option maxRecDepth 100000

/-! ### law 22: MessageRows -/

/-- what a message of any input has. -/
def Ms.any (y : Ms) : Prop := y.id < 2 ^ 64 ∧ y.expiry < 2 ^ 64 ∧ y.tries < 2 ^ 32

theorem IsBx.modMap {w w' : World} {mb n : Nat} {m : M} {v : Value} {l : List Ms} (h : IsBx w v l) (hmb : IsM w mb n m) (hm : Mod (fun k => k = mb) w w') : IsBx w' v l := by
  obtain ⟨es, clock, hb, _⟩ := hmb
  refine ⟨h.1, fun i x hx => ?_⟩
  obtain ⟨b, o, c, cur, t, f, h1, h2, h3⟩ := h.2 i x hx
  refine ⟨b, o, c, cur, t, f, h1, hm.keep h2 ?_, h3⟩
  rintro rfl
  rw [hb] at h2; cases h2

end Go.Oct

namespace Go.Oct
open Go Go.Vc Go.VrA Go.VrB Go.VrC
set_option maxRecDepth 100000

/-! ### law 22: MessageRows, the row of what is due -/

theorem fields_ms : ((Proofs.Tryz.prog.fieldsOf 49).toList.map fun f => (f.name, f.type, f.offset)) = [("Queue", 9, 0), ("ID", 31, 1), ("Tries", 30, 2), ("Expiry", 31, 3), ("Body", 9, 4)] := by kernel_rfl
theorem under_ms : Proofs.Tryz.prog.underlying 49 = some (.struct (Proofs.Tryz.prog.fieldsOf 49)) := by kernel_rfl
theorem run_neq_ms (q : Ms) (w : World) : (binOp .neq 49 (.agg q.cells.toArray) (.agg q.cells.toArray)).run Proofs.Tryz.prog w = .ok (.bool false) w := by
  have hu9 : Proofs.Tryz.prog.underlying 9 = some .string := by kernel_rfl
  have hu31 : Proofs.Tryz.prog.underlying 31 = some (.int .u64) := by kernel_rfl
  have hu30 : Proofs.Tryz.prog.underlying 30 = some (.int .u32) := by kernel_rfl
  rw [run_neq_struct, run_equalIn_struct (ht := under_ms) (hp := by kernel_rfl)]
  have hpart : ∀ (t : TypeId) (d : TypeDesc) (o : Nat) (v : Value), Proofs.Tryz.prog.underlying t = some d → (match d with | .struct _ | .array _ _ => true | _ => false) = false → q.cells.toArray[o]? = some v → (part t q.cells.toArray o).run Proofs.Tryz.prog w = .ok v w := by
    intro t d o v ht hd hv
    unfold part
    have hag : (isAgg t).run Proofs.Tryz.prog w = .ok false w := by
      unfold isAgg
      rw [Sem.run_bind, run_underlying ht]
      cases d <;> first | rfl | cases hd
    rw [Sem.run_bind, hag]
    simp only [Result.andThen, Bool.false_eq_true, if_false, hv]
    rfl
  have step : ∀ (f : Field) (fs : List Field) (d : TypeDesc) (v : Value), f.name ≠ "_" → Proofs.Tryz.prog.underlying f.type = some d → (match d with | .struct _ | .array _ _ => true | _ => false) = false → q.cells.toArray[f.offset]? = some v →
      (Op.equalIn 9999 f.type v v).run Proofs.Tryz.prog w = .ok true w → (Op.eqFields 9999 q.cells.toArray q.cells.toArray fs).run Proofs.Tryz.prog w = .ok true w → (Op.eqFields 9999 q.cells.toArray q.cells.toArray (f :: fs)).run Proofs.Tryz.prog w = .ok true w := by
    intro f fs d v hn ht hd hv he hfs
    unfold Op.eqFields
    rw [if_pos hn]
    simp only [Sem.run_bind, hpart _ d _ v ht hd hv, Result.andThen, he]
    simpa using hfs
  have key : ∀ (fs : List Field), (fs.map fun f => (f.name, f.type, f.offset)) = [("Queue", 9, 0), ("ID", 31, 1), ("Tries", 30, 2), ("Expiry", 31, 3), ("Body", 9, 4)] → (Op.eqFields 9999 q.cells.toArray q.cells.toArray fs).run Proofs.Tryz.prog w = .ok true w := by
    intro fs h
    obtain ⟨f0, fs, rfl, h0, h⟩ := List.map_eq_cons_iff.1 h
    obtain ⟨f1, fs, rfl, h1, h⟩ := List.map_eq_cons_iff.1 h
    obtain ⟨f2, fs, rfl, h2, h⟩ := List.map_eq_cons_iff.1 h
    obtain ⟨f3, fs, rfl, h3, h⟩ := List.map_eq_cons_iff.1 h
    obtain ⟨f4, fs, rfl, h4, h⟩ := List.map_eq_cons_iff.1 h
    obtain rfl := List.map_eq_nil_iff.1 h
    simp only [Prod.mk.injEq] at h0 h1 h2 h3 h4
    refine step f0 _ .string (.string q.queue) (by rw [h0.1]; decide) (by rw [h0.2.1]; exact hu9) rfl (by rw [h0.2.2]; rfl) (by rw [h0.2.1, run_equalIn_string _ _ _ _ _ hu9]; simp) ?_
    refine step f1 _ (.int .u64) (.int .u64 q.id) (by rw [h1.1]; decide) (by rw [h1.2.1]; exact hu31) rfl (by rw [h1.2.2]; rfl) (by rw [h1.2.1, run_equalIn_int _ _ _ _ _ _ _ hu31]; simp) ?_
    refine step f2 _ (.int .u32) (.int .u32 q.tries) (by rw [h2.1]; decide) (by rw [h2.2.1]; exact hu30) rfl (by rw [h2.2.2]; rfl) (by rw [h2.2.1, run_equalIn_int _ _ _ _ _ _ _ hu30]; simp) ?_
    refine step f3 _ (.int .u64) (.int .u64 q.expiry) (by rw [h3.1]; decide) (by rw [h3.2.1]; exact hu31) rfl (by rw [h3.2.2]; rfl) (by rw [h3.2.1, run_equalIn_int _ _ _ _ _ _ _ hu31]; simp) ?_
    refine step f4 _ .string (.string q.body) (by rw [h4.1]; decide) (by rw [h4.2.1]; exact hu9) rfl (by rw [h4.2.2]; rfl) (by rw [h4.2.1, run_equalIn_string _ _ _ _ _ hu9]; simp) ?_
    rfl
  rw [key _ fields_ms]
  rfl

end Go.Oct

namespace Go.Oct
open Go Go.Vc Go.VrA Go.VrB Go.VrC
set_option maxRecDepth 100000

/-! ### law 22: MessageRows, through the row -/

theorem rawK_neq_ms {go : Value → World → Prop} {ρ : Env} {ds : List Deferred} {n : Nat} {o : Oper} {w : World} {x y : Operand} (q : Ms) (ho : o.op = .binOp .neq 49 x y 49)
    (hx : inB n x = true) (hy : inB n y = true) (ha : ev ρ x = .agg q.cells.toArray) (hb : ev ρ y = .agg q.cells.toArray) (h : go (.bool false) w) : RawK Proofs.Tryz.prog go ρ ds n o w := by
  unfold RawK
  simp only [execOp, ho, mkA_eval n ρ ds x hx, mkA_eval n ρ ds y hy, ha, hb, Sem.run_bind, run_eqGuard_agg w .neq 49 x y _ _ (by kernel_rfl : Proofs.Tryz.prog.eqGuardType Proofs.Tryz.prog.depth 49 = false), Result.andThen, run_neq_ms]
  exact h

end Go.Oct
