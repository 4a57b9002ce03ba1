import Derived.Test.YtbkddpckkgbbmaaGreatDoorVqJ
import Derived.Laws.StructEq
set_option linter.unusedSimpArgs false
set_option linter.unusedVariables false
set_option linter.unusedSectionVars false
set_option linter.unnecessarySimpa false
namespace Go.Oct
open Go Go.Vc Go.VrA Go.VrB Go.VrC
set_option maxRecDepth 100000

/-! ### law 22: MessageRows -/

/-- what a message of any input has. -/
def Ms.any (y : Ms) : Prop := y.id < 2 ^ 64 ∧ y.expiry < 2 ^ 64 ∧ y.tries < 2 ^ 32

theorem IsBx.modMap {w w' : World} {mb n : Nat} {m : M} {v : Value} {l : List Ms} (h : IsBx w v l) (hmb : IsM w mb n m) (hm : Mod (fun k => k = mb) w w') : IsBx w' v l := by
  obtain ⟨es, clock, hb, _⟩ := hmb
  refine ⟨h.1, fun i x hx => ?_⟩
  obtain ⟨b, o, c, cur, t, f, h1, h2, h3⟩ := h.2 i x hx
  refine ⟨b, o, c, cur, t, f, h1, hm.keep h2 ?_, h3⟩
  rintro rfl
  rw [hb] at h2; cases h2

end Go.Oct

namespace Go.Oct
open Go Go.Vc Go.VrA Go.VrB Go.VrC
set_option maxRecDepth 100000

/-! ### law 22: MessageRows, the row of what is due -/

theorem fields_ms : ((Proofs.Tryz.prog.fieldsOf 49).toList.map fun f => (f.name, f.type, f.offset)) = [("Queue", 9, 0), ("ID", 31, 1), ("Tries", 30, 2), ("Expiry", 31, 3), ("Body", 9, 4)] := by kernel_rfl
theorem under_ms : Proofs.Tryz.prog.underlying 49 = some (.struct (Proofs.Tryz.prog.fieldsOf 49)) := by kernel_rfl
theorem run_neq_ms (q : Ms) (w : World) : (binOp .neq 49 (.agg q.cells.toArray) (.agg q.cells.toArray)).run Proofs.Tryz.prog w = .ok (.bool false) w := by
  have hu9 : Proofs.Tryz.prog.underlying 9 = some .string := by kernel_rfl
  have hu31 : Proofs.Tryz.prog.underlying 31 = some (.int .u64) := by kernel_rfl
  have hu30 : Proofs.Tryz.prog.underlying 30 = some (.int .u32) := by kernel_rfl
  rw [run_neq_struct, run_equalIn_struct (ht := under_ms) (hp := by kernel_rfl)]
  have hpart : ∀ (t : TypeId) (d : TypeDesc) (o : Nat) (v : Value), Proofs.Tryz.prog.underlying t = some d → (match d with | .struct _ | .array _ _ => true | _ => false) = false → q.cells.toArray[o]? = some v → (part t q.cells.toArray o).run Proofs.Tryz.prog w = .ok v w := by
    intro t d o v ht hd hv
    unfold part
    have hag : (isAgg t).run Proofs.Tryz.prog w = .ok false w := by
      unfold isAgg
      rw [Sem.run_bind, run_underlying ht]
      cases d <;> first | rfl | cases hd
    rw [Sem.run_bind, hag]
    simp only [Result.andThen, Bool.false_eq_true, if_false, hv]
    rfl
  have step : ∀ (f : Field) (fs : List Field) (d : TypeDesc) (v : Value), f.name ≠ "_" → Proofs.Tryz.prog.underlying f.type = some d → (match d with | .struct _ | .array _ _ => true | _ => false) = false → q.cells.toArray[f.offset]? = some v →
      (Op.equalIn 9999 f.type v v).run Proofs.Tryz.prog w = .ok true w → (Op.eqFields 9999 q.cells.toArray q.cells.toArray fs).run Proofs.Tryz.prog w = .ok true w → (Op.eqFields 9999 q.cells.toArray q.cells.toArray (f :: fs)).run Proofs.Tryz.prog w = .ok true w := by
    intro f fs d v hn ht hd hv he hfs
    unfold Op.eqFields
    rw [if_pos hn]
    simp only [Sem.run_bind, hpart _ d _ v ht hd hv, Result.andThen, he]
    simpa using hfs
  have key : ∀ (fs : List Field), (fs.map fun f => (f.name, f.type, f.offset)) = [("Queue", 9, 0), ("ID", 31, 1), ("Tries", 30, 2), ("Expiry", 31, 3), ("Body", 9, 4)] → (Op.eqFields 9999 q.cells.toArray q.cells.toArray fs).run Proofs.Tryz.prog w = .ok true w := by
    intro fs h
    obtain ⟨f0, fs, rfl, h0, h⟩ := List.map_eq_cons_iff.1 h
    obtain ⟨f1, fs, rfl, h1, h⟩ := List.map_eq_cons_iff.1 h
    obtain ⟨f2, fs, rfl, h2, h⟩ := List.map_eq_cons_iff.1 h
    obtain ⟨f3, fs, rfl, h3, h⟩ := List.map_eq_cons_iff.1 h
    obtain ⟨f4, fs, rfl, h4, h⟩ := List.map_eq_cons_iff.1 h
    obtain rfl := List.map_eq_nil_iff.1 h
    simp only [Prod.mk.injEq] at h0 h1 h2 h3 h4
    refine step f0 _ .string (.string q.queue) (by rw [h0.1]; decide) (by rw [h0.2.1]; exact hu9) rfl (by rw [h0.2.2]; rfl) (by rw [h0.2.1, run_equalIn_string _ _ _ _ _ hu9]; simp) ?_
    refine step f1 _ (.int .u64) (.int .u64 q.id) (by rw [h1.1]; decide) (by rw [h1.2.1]; exact hu31) rfl (by rw [h1.2.2]; rfl) (by rw [h1.2.1, run_equalIn_int _ _ _ _ _ _ _ hu31]; simp) ?_
    refine step f2 _ (.int .u32) (.int .u32 q.tries) (by rw [h2.1]; decide) (by rw [h2.2.1]; exact hu30) rfl (by rw [h2.2.2]; rfl) (by rw [h2.2.1, run_equalIn_int _ _ _ _ _ _ _ hu30]; simp) ?_
    refine step f3 _ (.int .u64) (.int .u64 q.expiry) (by rw [h3.1]; decide) (by rw [h3.2.1]; exact hu31) rfl (by rw [h3.2.2]; rfl) (by rw [h3.2.1, run_equalIn_int _ _ _ _ _ _ _ hu31]; simp) ?_
    refine step f4 _ .string (.string q.body) (by rw [h4.1]; decide) (by rw [h4.2.1]; exact hu9) rfl (by rw [h4.2.2]; rfl) (by rw [h4.2.1, run_equalIn_string _ _ _ _ _ hu9]; simp) ?_
    rfl
  rw [key _ fields_ms]
  rfl

theorem rawK_min {P : Program} {go : Value → World → Prop} {ρ : Env} {ds : List Deferred} {n : Nat} {o : Oper} {w : World} {s x : Operand} {t tx : TypeId} {k k' : IntKind} {a b : Int} (ho : o.op = .call { callee := .builtin .min, args := #[s, x], argTypes := #[t, tx] })
    (hs : inB n s = true) (hx : inB n x = true) (ha : ev ρ s = .int k a) (hb : ev ρ x = .int k' b) (h : go (.int k (min a b)) w) : RawK P go ρ ds n o w := by
  unfold RawK
  simp only [execOp, ho, resolve, Sem.run_bind, pure, Sem.run, Result.andThen, invoke, builtin]
  have e : (#[s, x] : Array Operand).map (Vc.mkA n ρ ds).eval = #[.int k a, .int k' b] := by simp [mkA_eval n ρ ds s hs, mkA_eval n ρ ds x hx, ha, hb]
  rw [e]
  have e2 : (if b < a then b else a) = min a b := by omega
  simp only [Builtin.min_, List.foldlM_cons, List.foldlM_nil, Sem.run_bind, Builtin.min2, pure, Sem.run, Result.andThen, e2]
  exact h

noncomputable def c4t : CC := subC c4 [1, 1, 1, 1, 1, 1, 1, 1, 1, 1]
noncomputable def c4u : CC := subC c4 [1, 1, 1, 1, 1, 1, 1, 1, 1, 1, 1, 1]
noncomputable def c4v : CC := subC c4 [1, 1, 1, 1, 1, 1, 1, 1, 1, 1, 1, 1, 1, 1]

def wantR (n : Nat) (rt : Bool) (most : Nat) : Nat := if most = 0 then n + (if rt = true then 0 else 1) else min (n + (if rt = true then 0 else 1)) most

theorem mrows_end (D : List Ms) (most : Nat) (rt : Bool) (ob rb b16 b17 nb dd : Nat) (v17 : Value) (ρ : Env) (w : World) (K : Value → World → Prop) (hmost : most < 256) (hDl : D.length < 2 ^ 20)
    (hl : ∃ a c, v17 = .slice a D.length c) (h7 : ρ 7 = .pointer (some ⟨ob, 0, none⟩)) (h8 : ρ 8 = .pointer (some ⟨rb, 0, none⟩)) (h16 : ρ 16 = .pointer (some ⟨b16, 0, none⟩)) (h17 : ρ 17 = .pointer (some ⟨b17, 0, none⟩)) (h23 : ρ 23 = .pointer (some ⟨nb, 0, none⟩))
    (ho : w.heap[ob]? = some (.cells #[.int .u8 most] 5 (0, 0))) (hr : w.heap[rb]? = some (.cells #[.bool false] 4 (0, 0))) (hb16 : w.heap[b16]? = some (.cells #[.bool rt] 4 (0, 0))) (hb17 : w.heap[b17]? = some (.cells #[v17] 47 (0, 0)))
    (hn : w.heap[nb]? = some (.cells #[.int .i64 (wantR D.length rt most)] 3 (0, 0))) (hd : w.heap[dd]? = some (.deferred (some [])))
    (h : ∀ w', Mod (fun k => k = rb ∨ k = dd) w w' → K (.bool true) w') :
    vc Proofs.Tryz.prog none 202 c4v (endQ Proofs.Tryz.prog r4 K) ρ [markD dd] w := by
  obtain ⟨a, c, rfl⟩ := hl
  unfold c4v r4
  have hne : rb ≠ dd := by rintro rfl; rw [hd] at hr; cases hr
  have hm1 : ∀ b : Bool, Mod (fun k => k = rb) w (Vc.set w rb (.cells #[.bool b] 4)) := fun b => (Mod.refl _ _).set (.inr rfl)
  have hd2 : ∀ b : Bool, (Vc.set w rb (.cells #[.bool b] 4)).heap[dd]? = some (.deferred (some [])) := fun b => (hm1 b).keep hd (fun e => hne e.symm)
  have hr2 : ∀ b : Bool, (Vc.set w rb (.cells #[.bool b] 4)).heap[rb]? = some (.cells #[.bool b] 4 (0, 0)) := fun b => get_set_same _ _ _ (lt_of_get hr)
  have hm2 : Mod (fun k => k = dd) (Vc.set w rb (.cells #[.bool true] 4)) (Vc.set (Vc.set w rb (.cells #[.bool true] 4)) dd (.deferred none)) := (Mod.refl _ _).set (.inr rfl)
  have hr3 := hm2.keep (hr2 true) hne
  have fin : K (.bool true) (Vc.set (Vc.set w rb (.cells #[.bool true] 4)) dd (.deferred none)) := h _ (((hm1 true).mono fun _ _ x => .inl x).trans (hm2.mono fun _ _ x => .inr x))
  have w1 : IntKind.i64.wrap ((D.length : Int) + 1) = ((D.length + 1 : Nat) : Int) := by rw [wrap_i64 _ (by omega)]; omega
  have w2 : IntKind.i64.wrap (most : Int) = (most : Int) := wrap_i64 _ (by omega)
  have eqb : ∀ x y : Int, x = y → (x == y) = true := fun x y e => by simp [e]
  cases rt with
  | true =>
    have n1 : (!true) = false := rfl
    by_cases c0 : most = 0
    · have d0 : ¬ (most : Int) > 0 := by omega
      have e1 : (((wantR D.length true most : Nat) : Int) == ((D.length : Nat) : Int)) = true := eqb _ _ (by simp [wantR, c0])
      simp only [subC, c4, vc_skip, vc_seq, vc_cond, vc_ret, vc_ops, vcOps_nil, vcOps_cons, goL_apply, thenQ_normal, condP_false, upd_same, upd_other, updO_some, updO_none, ev_tmp, ev_const, endQ_ret, endK, resK, res1, packed, insVc, load1K, loadO_cells, loadV_some, storeK, storeO_cells, iopK, iopV, notK, lenLK, isPlain, ne_eq, not_false_eq_true, Nat.reduceEqDiff, Nat.reduceLT, Nat.reduceLeDiff, reduceCtorEq, List.getElem?_cons_zero, List.getElem?_toArray, List.size_toArray, List.length_cons, List.length_nil, List.setIfInBounds_toArray, List.set_cons_zero, List.nil_append, true_and, or_false, and_self, Nat.zero_add, decide_true, decide_false, Bool.and_false, Nat.lt_add_one, h7, h8, h16, h17, h23, ho, hr, hb16, hb17, hn, n1, d0, e1, markO, hd2, hr3]
      exact fin
    · have d0 : (most : Int) > 0 := by omega
      have e1 : (((wantR D.length true most : Nat) : Int) == min ((D.length : Nat) : Int) (most : Int)) = true := eqb _ _ (by simp only [wantR, c0, if_false, if_true]; omega)
      simp only [subC, c4, vc_skip, vc_seq, vc_cond, vc_ops, vcOps_nil, vcOps_cons, goL_apply, thenQ_normal, condP_true, condP_false, upd_same, upd_other, updO_some, ev_tmp, ev_const, insVc, load1K, loadO_cells, loadV_some, iopK, iopV, notK, convK, lenLK, ne_eq, not_false_eq_true, Nat.reduceEqDiff, reduceCtorEq, List.getElem?_cons_zero, List.getElem?_toArray, true_and, or_false, decide_true, h7, h16, h17, ho, hb16, hb17, n1, d0, w2]
      refine rawK_min rfl rfl rfl rfl rfl ?_
      simp only [vc_seq, vc_ret, vc_ops, vcOps_nil, vcOps_cons, goL_apply, thenQ_normal, upd_same, upd_other, updO_some, updO_none, ev_tmp, endQ_ret, endK, resK, res1, packed, insVc, load1K, loadO_cells, loadV_some, storeK, storeO_cells, iopK, iopV, isPlain, ne_eq, not_false_eq_true, Nat.reduceEqDiff, Nat.reduceLT, Nat.reduceLeDiff, reduceCtorEq, List.getElem?_cons_zero, List.getElem?_toArray, List.size_toArray, List.length_cons, List.length_nil, List.setIfInBounds_toArray, List.set_cons_zero, List.nil_append, true_and, or_false, and_self, Nat.zero_add, decide_true, decide_false, Bool.and_false, Nat.lt_add_one, h8, h23, hr, hn, e1, markO, hd2, hr3]
      exact fin
  | false =>
    have n1 : (!false) = true := rfl
    by_cases c0 : most = 0
    · have d0 : ¬ (most : Int) > 0 := by omega
      have e1 : (((wantR D.length false most : Nat) : Int) == ((D.length + 1 : Nat) : Int)) = true := eqb _ _ (by simp [wantR, c0])
      simp only [subC, c4, vc_skip, vc_seq, vc_cond, vc_ret, vc_ops, vcOps_nil, vcOps_cons, goL_apply, thenQ_normal, condP_true, condP_false, upd_same, upd_other, updO_some, updO_none, ev_tmp, ev_const, endQ_ret, endK, resK, res1, packed, insVc, load1K, loadO_cells, loadV_some, storeK, storeO_cells, iopK, iopV, notK, lenLK, isPlain, ne_eq, not_false_eq_true, Nat.reduceEqDiff, Nat.reduceLT, Nat.reduceLeDiff, reduceCtorEq, List.getElem?_cons_zero, List.getElem?_toArray, List.size_toArray, List.length_cons, List.length_nil, List.setIfInBounds_toArray, List.set_cons_zero, List.nil_append, true_and, or_false, and_self, Nat.zero_add, decide_true, decide_false, Bool.and_false, Nat.lt_add_one, h7, h8, h16, h17, h23, ho, hr, hb16, hb17, hn, n1, d0, w1, e1, markO, hd2, hr3]
      exact fin
    · have d0 : (most : Int) > 0 := by omega
      have e1 : (((wantR D.length false most : Nat) : Int) == min ((D.length + 1 : Nat) : Int) (most : Int)) = true := eqb _ _ (by simp only [wantR, c0, if_false, Bool.false_eq_true]; omega)
      simp only [subC, c4, vc_seq, vc_cond, vc_ops, vcOps_nil, vcOps_cons, goL_apply, thenQ_normal, condP_true, upd_same, upd_other, updO_some, ev_tmp, ev_const, insVc, load1K, loadO_cells, loadV_some, iopK, iopV, notK, convK, lenLK, ne_eq, not_false_eq_true, Nat.reduceEqDiff, reduceCtorEq, List.getElem?_cons_zero, List.getElem?_toArray, true_and, or_false, decide_true, h7, h16, h17, ho, hb16, hb17, n1, d0, w1, w2]
      refine rawK_min rfl rfl rfl rfl rfl ?_
      simp only [vc_seq, vc_ret, vc_ops, vcOps_nil, vcOps_cons, goL_apply, thenQ_normal, upd_same, upd_other, updO_some, updO_none, ev_tmp, endQ_ret, endK, resK, res1, packed, insVc, load1K, loadO_cells, loadV_some, storeK, storeO_cells, iopK, iopV, isPlain, ne_eq, not_false_eq_true, Nat.reduceEqDiff, Nat.reduceLT, Nat.reduceLeDiff, reduceCtorEq, List.getElem?_cons_zero, List.getElem?_toArray, List.size_toArray, List.length_cons, List.length_nil, List.setIfInBounds_toArray, List.set_cons_zero, List.nil_append, true_and, or_false, and_self, Nat.zero_add, decide_true, decide_false, Bool.and_false, Nat.lt_add_one, h8, h23, hr, hn, e1, markO, hd2, hr3]
      exact fin

end Go.Oct

namespace Go.Oct
open Go Go.Vc Go.VrA Go.VrB Go.VrC
set_option maxRecDepth 100000

/-! ### law 22: MessageRows, through the row -/

def rowsOf (D : List Ms) (rt : Bool) : List (Ms × Int) := D.map (fun y => (y, (0 : Int))) ++ (if rt = true then [] else [(ms0, 31)])
theorem rowsOf_len (D : List Ms) (rt : Bool) : (rowsOf D rt).length = D.length + (if rt = true then 0 else 1) := by
  unfold rowsOf
  rw [List.length_append, List.length_map]
  cases rt <;> rfl
theorem rowsOf_lt {D : List Ms} {rt : Bool} {i : Nat} {y : Ms} (h : D[i]? = some y) : (rowsOf D rt)[i]? = some (y, 0) := by
  unfold rowsOf
  have hl : i < (D.map (fun y => (y, (0 : Int)))).length := by rw [List.length_map]; exact (List.getElem?_eq_some_iff.1 h).1
  rw [List.getElem?_append_left hl, List.getElem?_map, h]; rfl
theorem rowsOf_last {D : List Ms} : (rowsOf D false)[D.length]? = some (ms0, 31) := by
  unfold rowsOf
  rw [List.getElem?_append_right (by rw [List.length_map]; exact Nat.le_refl _), List.length_map, Nat.sub_self]; rfl

theorem rawK_neq_ms {go : Value → World → Prop} {ρ : Env} {ds : List Deferred} {n : Nat} {o : Oper} {w : World} {x y : Operand} (q : Ms) (ho : o.op = .binOp .neq 49 x y 49)
    (hx : inB n x = true) (hy : inB n y = true) (ha : ev ρ x = .agg q.cells.toArray) (hb : ev ρ y = .agg q.cells.toArray) (h : go (.bool false) w) : RawK Proofs.Tryz.prog go ρ ds n o w := by
  unfold RawK
  simp only [execOp, ho, mkA_eval n ρ ds x hx, mkA_eval n ρ ds y hy, ha, hb, Sem.run_bind, run_eqGuard_agg w .neq 49 x y _ _ (by kernel_rfl : Proofs.Tryz.prog.eqGuardType Proofs.Tryz.prog.depth 49 = false), Result.andThen, run_neq_ms]
  exact h

theorem mrows_row {σ : Type} (St : Sto σ) (s : σ) (hp : PureGet St s) (hpr : PureRng St s) (D : List Ms) (now most : Nat) (m : Int) (rt : Bool) (ob rb b16 b17 sb : Nat) (v17 : Value) (ρ : Env) (w0 w : World) (K : Value → World → Prop) (hmost : most < 256) (hn : now < 2 ^ 64) (hDl : D.length < 2 ^ 19)
    (ht : St.t = 26) (hv : St.v = ptr sb) (hAt : St.At s w) (hg : Gl m w) (hm0 : Mod (fun _ => False) w0 w)
    (hR : ∀ r ∈ St.dueRows s now, (parseR ⟨r.1.1.toArray⟩).1.queue.size < 4294967281 ∧ (parseR ⟨r.1.1.toArray⟩).1.id < 2 ^ 64 ∧ (St.get s (messageK (parseR ⟨r.1.1.toArray⟩).1.queue (parseR ⟨r.1.1.toArray⟩).1.id).1).1.1.size < 2 ^ 60)
    (hrows : dueL St s (St.dueRows s now) = rowsOf D rt)
    (hD : IsBx w v17 D) (hDb : ∀ k, v17.ownBlock = some k → k < w.heap.size)
    (r2 : ρ 2 = .int .u64 now) (h7 : ρ 7 = .pointer (some ⟨ob, 0, none⟩)) (h8 : ρ 8 = .pointer (some ⟨rb, 0, none⟩)) (h9 : ρ 9 = ptr sb) (h16 : ρ 16 = .pointer (some ⟨b16, 0, none⟩)) (h17 : ρ 17 = .pointer (some ⟨b17, 0, none⟩))
    (ho : w.heap[ob]? = some (.cells #[.int .u8 most] 5 (0, 0))) (hr : w.heap[rb]? = some (.cells #[.bool false] 4 (0, 0))) (hb16 : w.heap[b16]? = some (.cells #[.bool rt] 4 (0, 0))) (hb17 : w.heap[b17]? = some (.cells #[v17] 47 (0, 0)))
    (hrb : w0.heap.size ≤ rb) (hz : 0 < w0.heap.size)
    (h : ∀ w', Mod (fun _ => False) w0 w' → K (.bool true) w') :
    vc Proofs.Tryz.prog none 202 c4u (endQ Proofs.Tryz.prog r4 K) ρ [] w := by
  have hcu : c4u = .seq (subC c4 [1, 1, 1, 1, 1, 1, 1, 1, 1, 1, 1, 1, 0]) (.seq (subC c4 [1, 1, 1, 1, 1, 1, 1, 1, 1, 1, 1, 1, 1, 0]) c4v) := rfl
  rw [hcu]
  simp only [subC, c4, vc_seq, vc_ops, vcOps_nil, vcOps_cons, goL_apply, thenQ_normal, upd_same, upd_other, updO_some, updO_none, ev_tmp, ev_const, insVc, storeK, storeO_cells, isPlain, Value.cells, ne_eq, not_false_eq_true, Nat.reduceEqDiff, Nat.reduceLT, Nat.reduceLeDiff, List.map_cons, List.map_nil, List.size_toArray, List.length_cons, List.length_nil, List.setIfInBounds_toArray, List.set_cons_zero, true_and, and_self, if_true, Nat.zero_add, decide_true, decide_false, Bool.and_false, Nat.lt_add_one, get_alloc, Nat.reduceEqDiff, Nat.reduceLT, h9, r2]
  refine callK_gen ?_
  intro w1 hw1
  have hm1 : Mod (fun _ => False) w w1 := by rw [hw1]; exact ((Mod.refl _ _).alloc _).set (.inl (Nat.le_refl _))
  have n1 : w1.heap[w.heap.size]? = some (.cells #[.int .i64 0] 3 (0, 0)) := by rw [hw1]; exact get_set_same _ _ _ (by simp only [size_alloc]; omega)
  clear hw1
  have e1 : Value.iface 26 (ptr sb) = .iface St.t St.v := by rw [ht, hv]
  rw [e1]
  have hA1 := St.keep0 hAt hm1
  refine due_c St s hp hpr now m w1 _ hA1 (hg.mod hm1 id) hn hR ?_
  rw [hrows]
  intro w2 gf cap hm2 it
  have hm12 := hm1.trans hm2
  have hA2 := St.keep0 hA1 hm2
  have n2 := hm2.keep n1 id
  have o2 := hm12.keep ho id
  have r2' := hm12.keep hr id
  have s2 := hm12.keep hb16 id
  have d2 := hm12.keep hb17 id
  have hD2 := hD.keep hm12
  simp only [vc_block, vcOps_nil, goL_apply, thenQ_normal, updO_some]
  have lo1 := lt_of_get ho
  have lr1 := lt_of_get hr
  have ls1 := lt_of_get hb16
  have ld1 := lt_of_get hb17
  have hz1 := lt_of_get n1
  have hzm := hm2.size
  have hz0 := hm0.size
  have hlen : (msV (rowsOf D rt)).length = (rowsOf D rt).length := by simp [msV]
  refine range_iter (by kernel_rfl) (by kernel_rfl) (by kernel_rfl) (gf := gf) (cap := cap) (by simp only [upd_same, ev_tmp]) it
    (fun i X u => Mod (fun _ => False) w0 u ∧ (St.At s u ∧ Gl m u ∧ Kept w1.heap.size w2 u) ∧ w2.heap.size ≤ u.heap.size ∧ u.heap[ob]? = some (.cells #[.int .u8 most] 5 (0, 0)) ∧ u.heap[rb]? = some (.cells #[.bool false] 4 (0, 0)) ∧ u.heap[b16]? = some (.cells #[.bool rt] 4 (0, 0)) ∧ u.heap[b17]? = some (.cells #[v17] 47 (0, 0)) ∧
      IsBx u v17 D ∧ u.heap[w.heap.size]? = some (.cells #[.int .i64 i] 3 (0, 0)) ∧ (most ≠ 0 → i < most))
    (fun c X u => c = .exit 4 ∧ Mod (fun _ => False) w0 u ∧ w2.heap.size ≤ u.heap.size ∧ u.heap[ob]? = some (.cells #[.int .u8 most] 5 (0, 0)) ∧ u.heap[rb]? = some (.cells #[.bool false] 4 (0, 0)) ∧ u.heap[b16]? = some (.cells #[.bool rt] 4 (0, 0)) ∧ u.heap[b17]? = some (.cells #[v17] 47 (0, 0)) ∧
      u.heap[w.heap.size]? = some (.cells #[.int .i64 most] 3 (0, 0)) ∧ most ≠ 0 ∧ most ≤ (rowsOf D rt).length) ?_ ?_ ?_ ?_ ?_ ?_ ?_ ?_
  · intro X w' hm hsz hX
    exact ⟨(hm0.trans hm12).trans hm, ⟨St.keep0 hA2 hm, (hg.mod hm12 id).mod hm id, (Kept.refl _ _).keep hm (fun _ _ _ => id)⟩, hm.size, hm.keep o2 id, hm.keep r2' id, hm.keep s2 id, hm.keep d2 id, hD2.keep hm, hm.keep n2 id, fun x => by omega⟩
  · rintro i X u ⟨_, h1, _⟩
    exact h1
  · rintro i X X' a b ⟨k1, ⟨k2, k3, k4⟩, k5, k6, k7, k8, k9, k10, k11, k12⟩ hX ha hm hx
    have hge : ∀ k, X k → w2.heap.size ≤ k := fun k hk => hX k hk
    refine ⟨k1.then hm (fun i hi hk => by have := hge i hk; omega), ⟨St.keep _ _ a b k2 hm (fun k _ hk hf => ?_), k3.mod hm (fun hk => by have := hge 0 hk; omega), k4.keep hm (fun k _ hk x => by have := hge k x; omega)⟩, Nat.le_trans k5 hm.size, hm.keep k6 (fun x => by have := hge _ x; omega), hm.keep k7 (fun x => by have := hge _ x; omega), hm.keep k8 (fun x => by have := hge _ x; omega), hm.keep k9 (fun x => by have := hge _ x; omega), k10.mod hm (fun k hk x => by have := hge _ x; have := hDb k hk; omega), hm.keep k11 (fun x => by have := hge _ x; omega), k12⟩
    have := St.footLt _ _ k hAt hf
    have := hge k hk
    omega
  · rintro c X X' a b ⟨rfl, k1, k5, k6, k7, k8, k9, k11, k12, k13⟩ hX ha hm hx
    have hge : ∀ k, X k → w2.heap.size ≤ k := fun k hk => hX k hk
    exact ⟨rfl, k1.then hm (fun i hi hk => by have := hge i hk; omega), Nat.le_trans k5 hm.size, hm.keep k6 (fun x => by have := hge _ x; omega), hm.keep k7 (fun x => by have := hge _ x; omega), hm.keep k8 (fun x => by have := hge _ x; omega), hm.keep k9 (fun x => by have := hge _ x; omega), hm.keep k11 (fun x => by have := hge _ x; omega), k12, k13⟩
  · intro i hi
    rw [List.getElem?_eq_getElem hi]
    simp [msV]
  · intro i hi X a ⟨k1, k2, k5, k6, k7, k8, k9, k10, k11, k12⟩ hX ha
    have hli : i < (rowsOf D rt).length := by rw [← hlen]; exact hi
    obtain ⟨r, hr'⟩ : ∃ r, (rowsOf D rt)[i]? = some r := ⟨_, List.getElem?_eq_getElem hli⟩
    have hrow : ((msV (rowsOf D rt))[i]?.getD []) = [r.1.val, .int .i64 r.2] := by simp [msV, hr']
    rw [hrow]
    simp only [vc_seq, vc_block, vc_ops, vcOps_nil, vcOps_cons, goL_apply, thenQ_normal, upd_same, upd_other, updO_some, updO_none, ev_tmp, insVc, storeNK, storeNO_cells, setMany, isPlain, Value.cells, ne_eq, not_false_eq_true, Nat.reduceEqDiff, Nat.reduceAdd, Nat.reduceLeDiff, List.size_toArray, List.length_cons, List.length_nil, List.setIfInBounds_toArray, List.set_cons_zero, List.set_cons_succ, true_and, and_self, Nat.zero_add, Bool.and_true, List.all_toArray', List.all_cons, List.all_nil, get_alloc_new, updMany, Ms.val, Ms.cells]
    refine ⟨((Mod.refl _ _).alloc _).set (.inl (Nat.le_refl _)), ?_⟩
    rintro c hmc ⟨k1, ⟨k2, k3, k4⟩, k5, k6, k7, k8, k9, k10, k11, k12⟩
    have hxa : ¬ X a.heap.size := fun x => by have := (hX _ x).2; omega
    have pC := hmc.keep (get_set_same _ _ (.cells #[.string r.1.queue, .int .u64 r.1.id, .int .u32 r.1.tries, .int .u64 r.1.expiry, .string r.1.body] 49 (0, 0)) (by rw [size_alloc]; omega)) hxa
    have hge : ∀ k, X k → w2.heap.size ≤ k ∧ k < c.heap.size := fun k hk => by have := hX k hk; have := hmc.size; simp only [size_set, size_alloc] at this; omega
    have hw1 : IntKind.i64.wrap ((i : Int) + 1) = ((i + 1 : Nat) : Int) := by rw [wrap_i64 _ (by rw [rowsOf_len] at hli; split at hli <;> omega)]; omega
    have hw2 : IntKind.i64.wrap (most : Int) = (most : Int) := wrap_i64 _ (by omega)
    obtain ⟨u3, hu3⟩ : ∃ u3, u3 = Vc.set c.drew w.heap.size (.cells #[.int .i64 ((i + 1 : Nat) : Int)] 3) := ⟨_, rfl⟩
    have hm3 : Mod (fun k => k = w.heap.size) c u3 := by rw [hu3]; exact (Mod.refl _ _).drew.set (.inr rfl)
    have n3 : u3.heap[w.heap.size]? = some (.cells #[.int .i64 ((i + 1 : Nat) : Int)] 3 (0, 0)) := by rw [hu3]; exact get_set_same _ _ _ (by rw [size_drew]; exact lt_of_get k11)
    have hz3 := hm3.size
    have o3 := hm3.keep k6 (by omega)
    have r3 := hm3.keep k7 (by omega)
    have s3 := hm3.keep k8 (by omega)
    have d3' := hm3.keep k9 (by omega)
    have hm03 : Mod (fun _ => False) w0 u3 := k1.then hm3 (fun k hk x => by omega)
    have hX3 : ∀ k, X k → u3.heap[k]? = c.heap[k]? := fun k hk => hm3.get k (hge k hk).2 (by have := hge k hk; omega)
    have hbx3 := k10.mod hm3 (fun k hk x => by have := hDb k hk; omega)
    have hA3 := St.keep _ _ c u3 k2 hm3 (fun k _ hk hf => by have := St.footLt _ _ k hAt hf; omega)
    have hg3 := k3.mod hm3 (by omega)
    have hk3 := k4.keep hm3 (fun k h1 _ x => by omega)
    obtain ⟨⟨a17, c17, rfl⟩, hat⟩ := id k10
    by_cases hiD : i < D.length
    · obtain ⟨y, hy⟩ : ∃ y, D[i]? = some y := ⟨D[i], List.getElem?_eq_getElem hiD⟩
      have hry : r = (y, 0) := by
        have := rowsOf_lt (rt := rt) hy
        rw [hr'] at this; exact Option.some.inj this
      subst hry
      obtain ⟨b, o, c', cur, t, f, he, hb, hsz, hex⟩ := hat i y hy
      have ha17 : a17 = some ⟨b, o, none⟩ := by simpa using congrArg (fun x => match x with | .slice a _ _ => a | _ => none) he
      subst ha17
      have hi0 : (0 : Int) ≤ (i : Int) ∧ (i : Int) < ((D.length : Nat) : Int) := by omega
      have d1 : (i : Int) < ((D.length : Nat) : Int) := by omega
      refine draw_d (fun W => W.heap[w.heap.size]? = some (.cells #[.int .i64 i] 3 (0, 0)) ∧ W.heap[b17]? = some (.cells #[.slice (some ⟨b, o, none⟩) D.length c17] 47 (0, 0)) ∧ W.heap[a.heap.size]? = some (.cells #[.string y.queue, .int .u64 y.id, .int .u32 y.tries, .int .u64 y.expiry, .string y.body] 49 (0, 0)) ∧ W.heap[b]? = some (.cells cur t f)) (by kernel_rfl) (by kernel_rfl) (by kernel_rfl) (by kernel_rfl) ⟨k11, k9, pC, hb⟩ ?_
      simp only [vc_cond, gate_true, thenQ_normal, upd_same, upd_other, updO_some, ev_tmp, ev_const, insVc, pickK, loadV_some, iopK, iopV, lenLK, ne_eq, not_false_eq_true, Nat.reduceEqDiff, reduceCtorEq, or_false, if_true, if_false, Bool.false_eq_true, pureI, vcD_nil, vcD_cons, vcD_gate, stepD_pure, stepD_load, kindI, loadI]
      have d2 : ((i : Int) == ((D.length : Nat) : Int)) = false := by rw [beq_eq_false_iff_ne]; omega
      have d3 : ¬ (i : Int) > ((D.length : Nat) : Int) := by omega
      refine loadD1 (b := w.heap.size) (o := 0) (v := .int .i64 i) rfl (fun W hW => ⟨_, _, _, hW.1, rfl⟩) ?_
      refine loadD1 (b := b17) (o := 0) (v := .slice (some ⟨b, o, none⟩) D.length c17) (by simp only [upd_other, ev_tmp, ne_eq, not_false_eq_true, Nat.reduceEqDiff, h17]) (fun W hW => ⟨_, _, _, hW.2.1, rfl⟩) ?_
      simp only [gate_false, upd_same, upd_other, ev_tmp, ev_const, insVc, pickK, loadV_some, iopK, iopV, iaddrK, ne_eq, not_false_eq_true, Nat.reduceEqDiff, reduceCtorEq, Bool.not_false, true_and, or_false, if_true, if_false, Bool.false_eq_true, decide_true, Int.reduceBNe, pureI, gateD_true, stepD_pure, stepD_load, stepD_step, kindI, loadI, d1]
      refine loadDN (b := a.heap.size) (o := 0) (v := .agg y.cells.toArray) rfl (fun W hW => ⟨_, _, _, hW.2.2.1, Nat.le_refl _, rfl⟩) ?_
      refine loadD1 (b := b17) (o := 0) (v := .slice (some ⟨b, o, none⟩) D.length c17) (by simp only [upd_other, ev_tmp, ne_eq, not_false_eq_true, Nat.reduceEqDiff, h17]) (fun W hW => ⟨_, _, _, hW.2.1, rfl⟩) ?_
      refine loadD1 (b := w.heap.size) (o := 0) (v := .int .i64 i) rfl (fun W hW => ⟨_, _, _, hW.1, rfl⟩) ?_
      simp only [true_and, and_self, Int.toNat_natCast, hi0]
      refine loadDN (b := b) (o := o + i * 5) (v := .agg y.cells.toArray) rfl (fun W hW => ⟨_, _, _, hW.2.2.2, hsz, by rw [hex]⟩) ?_
      refine rawK_neq_ms y rfl rfl rfl rfl rfl ⟨⟨k11, k9, pC, hb⟩, ?_⟩
      simp only [gate_true, gate_false, upd_same, upd_other, ev_tmp, ev_const, insVc, pickK, loadV_some, iopK, iopV, lenLK, ne_eq, not_false_eq_true, Nat.reduceEqDiff, reduceCtorEq, Bool.not_false, or_false, if_true, if_false, Bool.false_eq_true, pureI, gateD_true, stepD_pure, stepD_load, kindI, loadI]
      refine loadD1 (b := w.heap.size) (o := 0) (v := .int .i64 i) rfl (fun W hW => ⟨_, _, _, hW.1, rfl⟩) ?_
      refine loadD1 (b := b17) (o := 0) (v := .slice (some ⟨b, o, none⟩) D.length c17) (by simp only [upd_other, ev_tmp, ne_eq, not_false_eq_true, Nat.reduceEqDiff, h17]) (fun W hW => ⟨_, _, _, hW.2.1, rfl⟩) ?_
      simp only [gate_false, gate_undef, upd_same, upd_other, ev_tmp, insVc, loadV_some, iopK, iopV, lenLK, ne_eq, not_false_eq_true, Nat.reduceEqDiff, reduceCtorEq, Bool.not_false, true_and, or_false, if_true, if_false, Bool.false_eq_true, pureI, gateD_true, gateD_false, stepD_pure, stepD_load, kindI, loadI, d2]
      refine loadD1 (b := w.heap.size) (o := 0) (v := .int .i64 i) rfl (fun W hW => ⟨_, _, _, hW.1, rfl⟩) ?_
      refine loadD1 (b := b17) (o := 0) (v := .slice (some ⟨b, o, none⟩) D.length c17) (by simp only [upd_other, ev_tmp, ne_eq, not_false_eq_true, Nat.reduceEqDiff, h17]) (fun W hW => ⟨_, _, _, hW.2.1, rfl⟩) ?_
      simp only [vc_skip, vc_seq, vc_ops, vcOps_nil, vcOps_cons, goL_apply, thenQ_normal, condP_false, upd_same, upd_other, updO_some, updO_none, ev_tmp, ev_const, insVc, load1K, loadO_cells, loadV_some, storeK, storeO_cells, iopK, iopV, isPlain, ne_eq, not_false_eq_true, Nat.reduceEqDiff, Nat.reduceLT, Nat.reduceLeDiff, reduceCtorEq, List.getElem?_cons_zero, List.getElem?_toArray, List.size_toArray, List.length_cons, List.length_nil, List.setIfInBounds_toArray, List.set_cons_zero, true_and, or_false, and_self, Nat.zero_add, decide_true, decide_false, Bool.and_false, get_drew, Nat.lt_add_one, d3, k11, hw1]
      rw [← hu3]
      by_cases hmo : i + 1 = most
      · have e3 : (((i + 1 : Nat) : Int) == (most : Int)) = true := by rw [hmo]; simp
        simp only [vc_cond, vc_exit, vcOps_nil, vcOps_cons, goL_apply, thenQ_normal, blockQ_exit, condP_true, upd_same, upd_other, updO_some, ev_tmp, insVc, load1K, loadO_cells, loadV_some, iopK, iopV, convK, ne_eq, not_false_eq_true, Nat.reduceEqDiff, reduceCtorEq, List.getElem?_cons_zero, List.getElem?_toArray, true_and, or_false, h7, n3, o3, hw2, e3]
        refine ⟨⟨hz3, hX3⟩, .inr ⟨.exit 4, .inr ⟨4, rfl, rfl⟩, rfl, hm03, by omega, r3, s3, d3', by rw [hmo], by omega, by omega⟩⟩
      · have e3 : (((i + 1 : Nat) : Int) == (most : Int)) = false := by rw [beq_eq_false_iff_ne]; omega
        simp only [vc_skip, vc_cond, vcOps_nil, vcOps_cons, goL_apply, thenQ_normal, blockQ_normal, condP_false, upd_same, upd_other, updO_some, ev_tmp, insVc, load1K, loadO_cells, loadV_some, iopK, iopV, convK, ne_eq, not_false_eq_true, Nat.reduceEqDiff, reduceCtorEq, List.getElem?_cons_zero, List.getElem?_toArray, true_and, or_false, h7, n3, o3, hw2, e3]
        exact ⟨⟨hz3, hX3⟩, .inl ⟨hm03, ⟨hA3, hg3, hk3⟩, by omega, r3, s3, d3', hbx3, fun x => by have := k12 x; omega⟩⟩
    · cases rt with
      | true =>
        rw [rowsOf_len, if_pos rfl] at hli
        omega
      | false =>
        have hie : i = D.length := by rw [rowsOf_len, if_neg (by decide)] at hli; omega
        have hry : r = (ms0, 31) := by
          rw [hie, rowsOf_last] at hr'; exact (Option.some.inj hr').symm
        subst hry
        have d1 : ¬ (i : Int) < ((D.length : Nat) : Int) := by omega
        have d2 : ((i : Int) == ((D.length : Nat) : Int)) = true := by rw [hie]; simp
        have d3 : ¬ (i : Int) > ((D.length : Nat) : Int) := by omega
        refine draw_d (fun W => W.heap[w.heap.size]? = some (.cells #[.int .i64 i] 3 (0, 0)) ∧ W.heap[b17]? = some (.cells #[.slice a17 D.length c17] 47 (0, 0)) ∧ W.heap[b16]? = some (.cells #[.bool false] 4 (0, 0))) (by kernel_rfl) (by kernel_rfl) (by kernel_rfl) (by kernel_rfl) ⟨k11, k9, k8⟩ ?_
        simp only [vc_cond, gate_true, thenQ_normal, upd_same, upd_other, updO_some, ev_tmp, ev_const, insVc, pickK, loadV_some, iopK, iopV, lenLK, ne_eq, not_false_eq_true, Nat.reduceEqDiff, reduceCtorEq, or_false, if_true, if_false, Bool.false_eq_true, pureI, vcD_nil, vcD_cons, vcD_gate, stepD_pure, stepD_load, kindI, loadI]
        refine loadD1 (b := w.heap.size) (o := 0) (v := .int .i64 i) rfl (fun W hW => ⟨_, _, _, hW.1, rfl⟩) ?_
        refine loadD1 (b := b17) (o := 0) (v := .slice a17 D.length c17) (by simp only [upd_other, ev_tmp, ne_eq, not_false_eq_true, Nat.reduceEqDiff, h17]) (fun W hW => ⟨_, _, _, hW.2.1, rfl⟩) ?_
        simp only [gate_true, gate_false, gate_undef, upd_same, upd_other, ev_tmp, ev_const, insVc, pickK, loadV_some, iopK, iopV, lenLK, ne_eq, not_false_eq_true, Nat.reduceEqDiff, reduceCtorEq, Bool.not_false, true_and, or_false, if_true, if_false, Bool.false_eq_true, decide_false, pureI, gateD_true, gateD_false, stepD_pure, stepD_load, kindI, loadI, d1]
        refine loadD1 (b := w.heap.size) (o := 0) (v := .int .i64 i) rfl (fun W hW => ⟨_, _, _, hW.1, rfl⟩) ?_
        refine loadD1 (b := b17) (o := 0) (v := .slice a17 D.length c17) (by simp only [upd_other, ev_tmp, ne_eq, not_false_eq_true, Nat.reduceEqDiff, h17]) (fun W hW => ⟨_, _, _, hW.2.1, rfl⟩) ?_
        simp only [upd_same, upd_other, ev_tmp, ev_const, insVc, pickK, ne_eq, not_false_eq_true, Nat.reduceEqDiff, true_and, if_true, if_false, Bool.false_eq_true, pureI, gateD_true, stepD_pure, stepD_load, kindI, loadI, d2]
        refine loadD1 (b := b16) (o := 0) (v := .bool false) (by simp only [upd_other, ev_tmp, ne_eq, not_false_eq_true, Nat.reduceEqDiff, h16]) (fun W hW => ⟨_, _, _, hW.2.2, rfl⟩) ?_
        simp only [gate_false, upd_same, upd_other, ev_tmp, ev_const, insVc, loadV_some, iopK, iopV, lenLK, ne_eq, not_false_eq_true, Nat.reduceEqDiff, reduceCtorEq, Bool.not_false, true_and, or_false, if_true, if_false, Bool.false_eq_true, Int.reduceBNe, pureI, gateD_true, stepD_pure, stepD_load, kindI, loadI]
        refine loadD1 (b := w.heap.size) (o := 0) (v := .int .i64 i) rfl (fun W hW => ⟨_, _, _, hW.1, rfl⟩) ?_
        refine loadD1 (b := b17) (o := 0) (v := .slice a17 D.length c17) (by simp only [upd_other, ev_tmp, ne_eq, not_false_eq_true, Nat.reduceEqDiff, h17]) (fun W hW => ⟨_, _, _, hW.2.1, rfl⟩) ?_
        simp only [vc_skip, vc_seq, vc_ops, vcOps_nil, vcOps_cons, goL_apply, thenQ_normal, condP_false, upd_same, upd_other, updO_some, updO_none, ev_tmp, ev_const, insVc, load1K, loadO_cells, loadV_some, storeK, storeO_cells, iopK, iopV, isPlain, ne_eq, not_false_eq_true, Nat.reduceEqDiff, Nat.reduceLT, Nat.reduceLeDiff, reduceCtorEq, List.getElem?_cons_zero, List.getElem?_toArray, List.size_toArray, List.length_cons, List.length_nil, List.setIfInBounds_toArray, List.set_cons_zero, true_and, or_false, and_self, Nat.zero_add, decide_true, decide_false, Bool.and_false, get_drew, Nat.lt_add_one, d3, k11, hw1]
        rw [← hu3]
        by_cases hmo : i + 1 = most
        · have e3 : (((i + 1 : Nat) : Int) == (most : Int)) = true := by rw [hmo]; simp
          simp only [vc_cond, vc_exit, vcOps_nil, vcOps_cons, goL_apply, thenQ_normal, blockQ_exit, condP_true, upd_same, upd_other, updO_some, ev_tmp, insVc, load1K, loadO_cells, loadV_some, iopK, iopV, convK, ne_eq, not_false_eq_true, Nat.reduceEqDiff, reduceCtorEq, List.getElem?_cons_zero, List.getElem?_toArray, true_and, or_false, h7, n3, o3, hw2, e3]
          refine ⟨⟨hz3, hX3⟩, .inr ⟨.exit 4, .inr ⟨4, rfl, rfl⟩, rfl, hm03, by omega, r3, s3, d3', by rw [hmo], by omega, by omega⟩⟩
        · have e3 : (((i + 1 : Nat) : Int) == (most : Int)) = false := by rw [beq_eq_false_iff_ne]; omega
          simp only [vc_skip, vc_cond, vcOps_nil, vcOps_cons, goL_apply, thenQ_normal, blockQ_normal, condP_false, upd_same, upd_other, updO_some, ev_tmp, insVc, load1K, loadO_cells, loadV_some, iopK, iopV, convK, ne_eq, not_false_eq_true, Nat.reduceEqDiff, reduceCtorEq, List.getElem?_cons_zero, List.getElem?_toArray, true_and, or_false, h7, n3, o3, hw2, e3]
          exact ⟨⟨hz3, hX3⟩, .inl ⟨hm03, ⟨hA3, hg3, hk3⟩, by omega, r3, s3, d3', hbx3, fun x => by have := k12 x; omega⟩⟩
  · rintro X u ⟨k1, k2, k5, k6, k7, k8, k9, k10, k11, k12⟩ ⟨a1, a2, a3⟩
    rw [hlen] at k11 k12
    have hwant : wantR D.length rt most = (rowsOf D rt).length := by
      unfold wantR
      rw [rowsOf_len] at k12 ⊢
      split
      · rfl
      · rename_i hne
        have := k12 hne
        omega
    simp only [thenQ_normal, blockQ_normal]
    refine mrows_end D most rt ob rb b16 b17 w.heap.size w2.heap.size v17 _ u K hmost (by omega) ⟨k10.1.choose, k10.1.choose_spec.choose, k10.1.choose_spec.choose_spec⟩ (by simp only [upd_other, ne_eq, not_false_eq_true, Nat.reduceEqDiff, h7]) (by simp only [upd_other, ne_eq, not_false_eq_true, Nat.reduceEqDiff, h8]) (by simp only [upd_other, ne_eq, not_false_eq_true, Nat.reduceEqDiff, h16]) (by simp only [upd_other, ne_eq, not_false_eq_true, Nat.reduceEqDiff, h17]) (by simp only [upd_same, upd_other, ne_eq, not_false_eq_true, Nat.reduceEqDiff]) k6 k7 k8 k9 (by rw [hwant]; exact k11) a1 ?_
    intro w' hm'
    exact h w' (k1.then hm' (fun k hk x => by omega))
  · rintro c X u ⟨rfl, k1, k5, k6, k7, k8, k9, k11, k12, k13⟩ ⟨a1, a2, a3⟩
    have hwant : wantR D.length rt most = most := by
      unfold wantR
      rw [rowsOf_len] at k13
      rw [if_neg k12]
      omega
    simp only [exitOf, thenQ_normal, blockQ_same]
    refine mrows_end D most rt ob rb b16 b17 w.heap.size w2.heap.size v17 _ u K hmost (by omega) ⟨hD.1.choose, hD.1.choose_spec.choose, hD.1.choose_spec.choose_spec⟩ (by simp only [upd_other, ne_eq, not_false_eq_true, Nat.reduceEqDiff, h7]) (by simp only [upd_other, ne_eq, not_false_eq_true, Nat.reduceEqDiff, h8]) (by simp only [upd_other, ne_eq, not_false_eq_true, Nat.reduceEqDiff, h16]) (by simp only [upd_other, ne_eq, not_false_eq_true, Nat.reduceEqDiff, h17]) (by simp only [upd_same, upd_other, ne_eq, not_false_eq_true, Nat.reduceEqDiff]) k6 k7 k8 k9 (by rw [hwant]; exact k11) a1 ?_
    intro w' hm'
    exact h w' (k1.then hm' (fun k hk x => by omega))

end Go.Oct
