import Derived.Test.YtnpfllldeoiadaaGreatDoorVyL
set_option linter.unusedSimpArgs false
set_option linter.unusedVariables false
set_option linter.unusedSectionVars false
set_option linter.unnecessarySimpa false
namespace Go.Oct
open Go Go.Vc Go.VrA Go.VrB Go.VrD
set_option maxRecDepth 100000

/-! ### what is gone through -/

section
variable {go : Value → World → Prop} {ρ : Env} {ds : List Deferred} {n : Nat} {o : Oper} {w : World}
theorem max_if (a b : Int) : (if b > a then b else a) = max a b := by omega
theorem rawK_max3 {x y z : Operand} {t1 t2 t3 : TypeId} {k : IntKind} {a b c : Int} (ho : o.op = .call { callee := .builtin .max, args := #[x, y, z], argTypes := #[t1, t2, t3] })
    (hx : inB n x = true) (hy : inB n y = true) (hz : inB n z = true) (ha : ev ρ x = .int k a) (hb : ev ρ y = .int k b) (hc : ev ρ z = .int k c) (h : go (.int k (max (max a b) c)) w) : RawK Proofs.Tryz.prog go ρ ds n o w := by
  unfold RawK
  simp only [execOp, ho, resolve, Sem.run_bind, pure, Sem.run, Result.andThen, invoke, builtin]
  have e : (#[x, y, z] : Array Operand).map (Vc.mkA n ρ ds).eval = #[.int k a, .int k b, .int k c] := by simp [mkA_eval n ρ ds x hx, mkA_eval n ρ ds y hy, mkA_eval n ρ ds z hz, ha, hb, hc]
  rw [e]
  simp only [Builtin.max_, List.foldlM_cons, List.foldlM_nil, Sem.run_bind, Builtin.max2, pure, Sem.run, Result.andThen, max_if]
  exact h
theorem rawK_max6 {x1 x2 x3 x4 x5 x6 : Operand} {ts : Array TypeId} {k : IntKind} {a1 a2 a3 a4 a5 a6 : Int} (ho : o.op = .call { callee := .builtin .max, args := #[x1, x2, x3, x4, x5, x6], argTypes := ts })
    (h1 : inB n x1 = true) (h2 : inB n x2 = true) (h3 : inB n x3 = true) (h4 : inB n x4 = true) (h5 : inB n x5 = true) (h6 : inB n x6 = true)
    (e1 : ev ρ x1 = .int k a1) (e2 : ev ρ x2 = .int k a2) (e3 : ev ρ x3 = .int k a3) (e4 : ev ρ x4 = .int k a4) (e5 : ev ρ x5 = .int k a5) (e6 : ev ρ x6 = .int k a6) (h : go (.int k (max (max (max (max (max a1 a2) a3) a4) a5) a6)) w) : RawK Proofs.Tryz.prog go ρ ds n o w := by
  unfold RawK
  simp only [execOp, ho, resolve, Sem.run_bind, pure, Sem.run, Result.andThen, invoke, builtin]
  have e : (#[x1, x2, x3, x4, x5, x6] : Array Operand).map (Vc.mkA n ρ ds).eval = #[.int k a1, .int k a2, .int k a3, .int k a4, .int k a5, .int k a6] := by
    simp [mkA_eval n ρ ds x1 h1, mkA_eval n ρ ds x2 h2, mkA_eval n ρ ds x3 h3, mkA_eval n ρ ds x4 h4, mkA_eval n ρ ds x5 h5, mkA_eval n ρ ds x6 h6, e1, e2, e3, e4, e5, e6]
  rw [e]
  simp only [Builtin.max_, List.foldlM_cons, List.foldlM_nil, Sem.run_bind, Builtin.max2, pure, Sem.run, Result.andThen, max_if]
  exact h
end

theorem take_small {α : Type} {P : α → Prop} {l : List α} {i : Nat} {x : α} (hx : l[i]? = some x) (h : ∀ y ∈ l.take i, P y) (hp : P x) : ∀ y ∈ l.take (i + 1), P y := by
  intro y hy
  rw [List.take_add_one, hx] at hy
  rcases List.mem_append.1 hy with hy | hy
  · exact h y hy
  · simp at hy; rw [hy]; exact hp

theorem light_c (r : Ry) (v1 v2 v3 v4 : Value) (w : World) (K : Value → World → Prop) (hr : IsRy w v1 v2 v3 v4 r)
    (h : ∀ w' b, Mod (fun _ => False) w w' → (b = true → r.small) → K (.bool b) w') : Ok Proofs.Tryz.prog 6 #[.agg #[.int .i64 r.err, .int .u64 r.n, v1, v2, v3, v4]] w K := by
  have hl4 := hr.l4
  simp only [maxLen] at hl4
  obtain ⟨⟨a1, p1, rfl⟩, _⟩ := id hr.ids
  obtain ⟨⟨a2, p2, rfl⟩, _⟩ := id hr.lost
  obtain ⟨⟨a3, p3, rfl⟩, _⟩ := id hr.dead
  obtain ⟨⟨a4, p4, rfl⟩, _⟩ := id hr.list
  refine F6.enter (args := [.agg #[.int .i64 r.err, .int .u64 r.n, .slice a1 r.ids.length p1, .slice a2 r.lost.length p2, .slice a3 r.dead.length p3, .slice a4 r.list.length p4]]) (by simp) ?_
  unfold c6 r6
  simp only [vc_seq, vc_block, vc_ops, vcOps_nil, vcOps_cons, goL_apply, thenQ_normal, upd_same, upd_other, updO_some, ev_tmp, ev_const, initE_at, insVc, load1K, loadO_cells, loadV_some, faddrK, lenLK, Value.cells, ne_eq, not_false_eq_true, Nat.reduceEqDiff, Option.getD_some, List.getElem?_cons_zero, List.getElem?_cons_succ, List.getElem?_toArray, Nat.zero_add, get_alloc_new]
  refine vc_loop (fun mm ρ ds u => ∃ i, i ≤ r.list.length ∧ mm = r.list.length - i ∧ ds = [] ∧ ρ 1 = ptr w.heap.size ∧ ρ 6 = .slice a4 r.list.length p4 ∧ ρ 7 = .int .i64 r.list.length ∧ ρ 8 = .int .i64 i ∧
    Mod (fun _ => False) w u ∧ u.heap[w.heap.size]? = some (.cells #[.int .i64 r.err, .int .u64 r.n, .slice a1 r.ids.length p1, .slice a2 r.lost.length p2, .slice a3 r.dead.length p3, .slice a4 r.list.length p4] 27 (0, 0)) ∧
    (0 < i → r.list.length ≤ 40) ∧ ∀ m ∈ r.list.take i, m.small) r.list.length ?_ ?_
  · refine ⟨0, Nat.zero_le _, rfl, rfl, ?_, ?_, ?_, ?_, (Mod.refl _ _).alloc _, get_alloc_new _ _, fun x => by omega, by simp⟩ <;> simp only [upd_same, upd_other, ne_eq, not_false_eq_true, Nat.reduceEqDiff]
    rfl
  · rintro mm ρ ds u ⟨i, hi, rfl, rfl, g1, g6, g7, g8, hmu, hx, h40, hsm⟩
    by_cases hc : i < r.list.length
    · have d1 : (i : Int) < ((r.list.length : Nat) : Int) := by omega
      have hi0 : (0 : Int) ≤ (i : Int) ∧ (i : Int) < ((r.list.length : Nat) : Int) := by omega
      obtain ⟨m, hm⟩ : ∃ m, r.list[i]? = some m := ⟨r.list[i], List.getElem?_eq_getElem hc⟩
      obtain ⟨b, o, cur, t, f, rfl, hb, hsz, hex⟩ := (hr.list.keep hmu).at hm
      rw [Nat.add_assoc] at hsz hex
      have hw1 : IntKind.i64.wrap ((i : Int) + 1) = ((i + 1 : Nat) : Int) := by rw [wrap_i64 _ (by omega)]; omega
      obtain ⟨u1, hu1⟩ : ∃ u1, u1 = Vc.set (u.alloc (.cells #[.string ⟨#[]⟩, .int .u64 0, .int .u32 0, .int .u64 0, .string ⟨#[]⟩] 44)) u.heap.size (.cells #[.string m.queue, .int .u64 m.id, .int .u32 m.tries, .int .u64 m.expiry, .string m.body] 44) := ⟨_, rfl⟩
      have hmu1 : Mod (fun _ => False) u u1 := by rw [hu1]; exact ((Mod.refl _ _).alloc _).set (.inl (Nat.le_refl _))
      have x1 : u1.heap[u.heap.size]? = some (.cells #[.string m.queue, .int .u64 m.id, .int .u32 m.tries, .int .u64 m.expiry, .string m.body] 44 (0, 0)) := by rw [hu1]; exact get_set_same _ _ _ (by rw [size_alloc]; omega)
      have hx1 := hmu1.keep hx id
      have hmw1 := hmu.trans hmu1
      have hne : w.heap.size ≠ u.heap.size := by have := lt_of_get hx; omega
      by_cases c1 : r.list.length > 40
      · have e1 : ((r.list.length : Nat) : Int) > 40 := by omega
        simp only [vc_skip, vc_seq, vc_cond, vc_block, vc_ret, vc_ops, vcOps_nil, vcOps_cons, vcOps_gate, gateK_false, gate_false, goL_apply, thenQ_normal, thenQ_ret, blockQ_ret, condP_true, upd_same, upd_other, updO_some, updO_none, ev_tmp, ev_const, endQ_ret, endK, resK, packed, insVc, pickK, load1K, loadO_cells, loadV_some, loadNK, loadNO_cells, storeNK, storeNO_cells, setMany, iopK, iopV, faddrK, iaddrK, lenLK, isPlain, Value.cells, ne_eq, not_false_eq_true, Nat.reduceEqDiff, Nat.reduceAdd, Nat.reduceLeDiff, reduceCtorEq, Bool.not_true, List.getElem?_cons_zero, List.getElem?_cons_succ, List.getElem?_toArray, List.size_toArray, List.length_cons, List.length_nil, List.setIfInBounds_toArray, List.set_cons_zero, List.set_cons_succ, List.nil_append, true_and, and_true, or_false, and_self, if_true, if_false, Nat.zero_add, decide_true, Bool.and_true, Int.toNat_natCast, List.all_toArray', List.all_cons, List.all_nil, size_alloc, Nat.lt_add_one, get_alloc, get_set, size_alloc, Nat.add_assoc, Nat.reduceAdd, Nat.reduceEqDiff, g1, g6, g7, g8, d1, hi0, hb, hsz, hex, Ms.cells, hx, hne, e1]
        rw [← hu1]
        exact h u1 false hmw1 (fun x => by cases x)
      have e1 : ¬ ((r.list.length : Nat) : Int) > 40 := by omega
      by_cases c2 : m.queue.size > 400
      · have e2 : ((m.queue.size : Nat) : Int) > 400 := by omega
        simp only [vc_skip, vc_seq, vc_cond, vc_block, vc_ret, vc_ops, vcOps_nil, vcOps_cons, vcOps_gate, gateK_true, gateK_false, gate_false, goL_apply, thenQ_normal, thenQ_ret, blockQ_ret, condP_true, upd_same, upd_other, updO_some, updO_none, ev_tmp, ev_const, endQ_ret, endK, resK, packed, insVc, pickK, load1K, loadO_cells, loadV_some, loadNK, loadNO_cells, storeNK, storeNO_cells, setMany, iopK, iopV, faddrK, iaddrK, lenSK, lenLK, isPlain, Value.cells, ne_eq, not_false_eq_true, Nat.reduceEqDiff, Nat.reduceAdd, Nat.reduceLeDiff, reduceCtorEq, Bool.not_true, Bool.not_false, List.getElem?_cons_zero, List.getElem?_cons_succ, List.getElem?_toArray, List.size_toArray, List.length_cons, List.length_nil, List.setIfInBounds_toArray, List.set_cons_zero, List.set_cons_succ, List.nil_append, true_and, and_true, or_false, and_self, if_true, if_false, Bool.false_eq_true, Nat.zero_add, Nat.add_zero, decide_true, decide_false, Bool.and_true, Int.toNat_natCast, List.all_toArray', List.all_cons, List.all_nil, size_alloc, get_set_same, Nat.lt_add_one, get_alloc, get_set, size_alloc, Nat.add_assoc, Nat.reduceAdd, Nat.reduceEqDiff, g1, g6, g7, g8, d1, hi0, hb, hsz, hex, Ms.cells, hx, hne, e1, lenSK, e2]
        rw [← hu1]
        exact h u1 false hmw1 (fun x => by cases x)
      have e2 : ¬ ((m.queue.size : Nat) : Int) > 400 := by omega
      by_cases c3 : m.body.size > 2000
      · have e3 : ((m.body.size : Nat) : Int) > 2000 := by omega
        simp only [vc_skip, vc_seq, vc_cond, vc_block, vc_ret, vc_ops, vcOps_nil, vcOps_cons, vcOps_gate, gateK_true, gate_false, goL_apply, thenQ_normal, thenQ_ret, blockQ_ret, condP_true, upd_same, upd_other, updO_some, updO_none, ev_tmp, ev_const, endQ_ret, endK, resK, packed, insVc, pickK, load1K, loadO_cells, loadV_some, loadNK, loadNO_cells, storeNK, storeNO_cells, setMany, iopK, iopV, faddrK, iaddrK, lenSK, lenLK, isPlain, Value.cells, ne_eq, not_false_eq_true, Nat.reduceEqDiff, Nat.reduceAdd, Nat.reduceLeDiff, reduceCtorEq, Bool.not_false, List.getElem?_cons_zero, List.getElem?_cons_succ, List.getElem?_toArray, List.size_toArray, List.length_cons, List.length_nil, List.setIfInBounds_toArray, List.set_cons_zero, List.set_cons_succ, List.nil_append, true_and, and_true, or_false, and_self, if_true, if_false, Bool.false_eq_true, Nat.zero_add, Nat.add_zero, decide_true, decide_false, Bool.and_true, Int.toNat_natCast, List.all_toArray', List.all_cons, List.all_nil, size_alloc, get_set_same, Nat.lt_add_one, get_alloc, get_set, size_alloc, Nat.add_assoc, Nat.reduceAdd, Nat.reduceEqDiff, g1, g6, g7, g8, d1, hi0, hb, hsz, hex, Ms.cells, hx, hne, e1, lenSK, e2, e3]
        rw [← hu1]
        exact h u1 false hmw1 (fun x => by cases x)
      have e3 : ¬ ((m.body.size : Nat) : Int) > 2000 := by omega
      obtain ⟨b1, b2, b3, _, _⟩ := hr.g4 m (List.mem_of_getElem? hm)
      simp only [vc_skip, vc_seq, vc_cond, vc_block, vc_ops, vcOps_nil, vcOps_cons, vcOps_gate, gateK_true, gate_false, goL_apply, thenQ_normal, blockQ_normal, condP_true, condP_false, upd_same, upd_other, updO_some, updO_none, ev_tmp, ev_const, insVc, pickK, load1K, loadO_cells, loadV_some, loadNK, loadNO_cells, storeNK, storeNO_cells, setMany, iopK, iopV, faddrK, iaddrK, lenSK, lenLK, isPlain, Value.cells, ne_eq, not_false_eq_true, Nat.reduceEqDiff, Nat.reduceAdd, Nat.reduceLeDiff, reduceCtorEq, Bool.not_false, List.getElem?_cons_zero, List.getElem?_cons_succ, List.getElem?_toArray, List.size_toArray, List.length_cons, List.length_nil, List.setIfInBounds_toArray, List.set_cons_zero, List.set_cons_succ, true_and, and_true, or_false, and_self, if_true, if_false, Bool.false_eq_true, Nat.zero_add, Nat.add_zero, decide_true, decide_false, Bool.and_true, Int.toNat_natCast, List.all_toArray', List.all_cons, List.all_nil, size_alloc, get_set_same, Nat.lt_add_one, get_alloc, get_set, size_alloc, Nat.add_assoc, Nat.reduceAdd, Nat.reduceEqDiff, g1, g6, g7, g8, d1, hi0, hb, hsz, hex, Ms.cells, hx, hne, e1, lenSK, e2, e3, hw1]
      rw [← hu1]
      exact ⟨r.list.length - (i + 1), by omega, i + 1, by omega, rfl, rfl, hmw1, (fun _ => by omega), take_small hm hsm ⟨by omega, by omega, b1, b2, b3⟩⟩
    · have d1 : ¬ (i : Int) < ((r.list.length : Nat) : Int) := by omega
      have hie : i = r.list.length := by omega
      rw [hie, List.take_length] at hsm
      simp only [vc_seq, vc_cond, vc_exit, vc_ops, vcOps_nil, vcOps_cons, goL_apply, thenQ_normal, thenQ_exit, blockQ_same, condP_false, upd_same, upd_other, updO_some, ev_tmp, insVc, load1K, loadO_cells, loadV_some, iopK, iopV, faddrK, lenLK, ne_eq, not_false_eq_true, Nat.reduceEqDiff, reduceCtorEq, List.getElem?_cons_zero, List.getElem?_cons_succ, List.getElem?_toArray, true_and, or_false, Nat.zero_add, decide_false, g1, g7, g8, d1, hx]
      refine rawK_max3 rfl rfl rfl rfl rfl rfl rfl ?_
      simp only [vc_ret, vcOps_nil, vcOps_cons, goL_apply, thenQ_normal, upd_same, updO_some, ev_tmp, ev_const, endQ_ret, endK, resK, packed, insVc, loadV_some, iopK, iopV, reduceCtorEq, List.nil_append, true_and, or_false]
      refine h u _ hmu (fun hb => ?_)
      have hb' := of_decide_eq_true hb
      refine ⟨by omega, by omega, by omega, ?_, hsm⟩
      rcases Nat.eq_zero_or_pos r.list.length with h0 | h0
      · omega
      · exact h40 (by omega)

theorem few_c (r : Rt) (v1 v2 v3 v4 v5 v6 : Value) (w : World) (K : Value → World → Prop) (hr : IsRt w v1 v2 v3 v4 v5 v6 r)
    (h : ∀ w' b, Mod (fun _ => False) w w' → (b = true → r.small) → K (.bool b) w') : Ok Proofs.Tryz.prog 8 #[.agg (rtV r v1 v2 v3 v4 v5 v6)] w K := by
  obtain ⟨⟨a1, c1, rfl⟩, _⟩ := id hr.t1
  obtain ⟨⟨a2, c2, rfl⟩, _⟩ := id hr.t2
  obtain ⟨⟨a3, c3, rfl⟩, _⟩ := id hr.t3
  obtain ⟨⟨a4, c4, rfl⟩, _⟩ := id hr.t4
  obtain ⟨⟨a5, c5, rfl⟩, _⟩ := id hr.t5
  obtain ⟨⟨a6, c6, rfl⟩, _⟩ := id hr.t6
  refine F8.enter (args := [.agg (rtV r (.slice a1 r.tree.length c1) (.slice a2 r.chains.length c2) (.slice a3 r.ledger.length c3) (.slice a4 r.free.length c4) (.slice a5 r.lost.length c5) (.slice a6 r.twice.length c6))]) (by simp) ?_
  unfold c8 r8
  simp only [vc_seq, vc_ops, vcOps_nil, vcOps_cons, goL_apply, thenQ_normal, upd_same, upd_other, updO_some, ev_tmp, ev_const, initE_at, insVc, load1K, loadO_cells, loadV_some, faddrK, lenLK, Value.cells, ne_eq, not_false_eq_true, Nat.reduceEqDiff, Option.getD_some, List.getElem?_cons_zero, List.getElem?_cons_succ, List.getElem?_toArray, Nat.zero_add, Nat.add_zero, get_alloc_new, rtV]
  refine rawK_max6 rfl rfl rfl rfl rfl rfl rfl rfl rfl rfl rfl rfl rfl ?_
  simp only [vc_ret, vcOps_nil, vcOps_cons, goL_apply, thenQ_normal, upd_same, updO_some, ev_tmp, ev_const, endQ_ret, endK, resK, packed, insVc, loadV_some, iopK, iopV, reduceCtorEq, List.nil_append, true_and, or_false]
  refine h _ _ ((Mod.refl _ _).alloc _) (fun hb => ?_)
  have hb' := of_decide_eq_true hb
  exact ⟨by omega, by omega, by omega, by omega, by omega, by omega⟩

theorem to_c (r : Ry) (v1 v2 v3 v4 : Value) (w : World) (K : Value → World → Prop) (hr : IsRy w v1 v2 v3 v4 r)
    (h : ∀ w', Mod (fun _ => False) w w' → K (.agg #[.int .i64 r.err, .int .u64 r.n, v1, v2, v3, v4]) w') : Ok Proofs.Tryz.prog 15 #[.agg #[.int .i64 r.err, .int .u64 r.n, v1, v2, v3, v4]] w K := by
  obtain ⟨⟨a1, p1, rfl⟩, _⟩ := id hr.ids
  obtain ⟨⟨a2, p2, rfl⟩, _⟩ := id hr.lost
  obtain ⟨⟨a3, p3, rfl⟩, _⟩ := id hr.dead
  obtain ⟨⟨a4, p4, rfl⟩, _⟩ := id hr.list
  refine F15.enter (args := [.agg #[.int .i64 r.err, .int .u64 r.n, .slice a1 r.ids.length p1, .slice a2 r.lost.length p2, .slice a3 r.dead.length p3, .slice a4 r.list.length p4]]) (by simp) ?_
  unfold c15 r15
  simp only [vc_seq, vc_ret, vc_ops, vcOps_nil, vcOps_cons, goL_apply, thenQ_normal, upd_same, upd_other, updO_some, updO_none, ev_tmp, endQ_ret, endK, resK, resN, resNO_cells, packed, initE_at, insVc, load1K, loadO_cells, loadV_some, storeNK, storeNO_cells, setMany, faddrK, buildK, fillL, isPlain, Value.cells, ne_eq, not_false_eq_true, Nat.reduceEqDiff, Nat.reduceAdd, Nat.reduceLeDiff, Option.getD_some, List.getElem?_cons_zero, List.getElem?_cons_succ, List.getElem?_toArray, List.size_toArray, List.length_cons, List.length_nil, List.zipIdx_cons, List.zipIdx_nil, List.foldl_cons, List.foldl_nil, List.setIfInBounds_toArray, List.set_cons_zero, List.set_cons_succ, List.nil_append, List.toList_toArray, true_and, and_self, if_true, if_false, Nat.zero_add, Nat.add_zero, Bool.and_true, List.extract_toArray, List.extract_eq_take_drop, List.drop_zero, List.take_zero, List.take_succ_cons, Nat.sub_zero, List.all_toArray', List.all_cons, List.all_nil, size_alloc, get_set_same, Nat.lt_add_one, get_alloc, size_alloc, Nat.add_assoc, Nat.reduceAdd, Nat.add_eq_left, Nat.left_eq_add, Nat.reduceEqDiff, Nat.one_ne_zero]
  exact h _ ((((Mod.refl _ _).alloc _).alloc _).set (.inl (by omega)))

theorem light27_c (d : Du) (v1 v2 v3 : Value) (w : World) (K : Value → World → Prop) (hr : IsDu w v1 v2 v3 d) (hsum : d.qs.length + d.bs.length + d.ms.length < 2 ^ 62)
    (h : ∀ w' b, Mod (fun _ => False) w w' → (b = true → d.small) → K (.bool b) w') : Ok Proofs.Tryz.prog 7 #[.agg #[.int .u64 d.clock, .int .u64 d.last, v1, v2, v3]] w K := by
  obtain ⟨⟨a1, p1, rfl⟩, _⟩ := id hr.qs
  obtain ⟨⟨a2, p2, rfl⟩, _⟩ := id hr.bs
  obtain ⟨⟨a3, p3, rfl⟩, _⟩ := id hr.ms
  refine F7.enter (args := [.agg #[.int .u64 d.clock, .int .u64 d.last, .slice a1 d.qs.length p1, .slice a2 d.bs.length p2, .slice a3 d.ms.length p3]]) (by simp) ?_
  unfold c7 r7
  obtain ⟨N, hN⟩ : ∃ N, N = d.qs.length + d.bs.length + d.ms.length := ⟨_, rfl⟩
  have n1 : IntKind.i64.wrap (((d.qs.length : Nat) : Int) + ((d.bs.length : Nat) : Int)) = ((d.qs.length + d.bs.length : Nat) : Int) := by rw [wrap_i64 _ (by omega)]; omega
  have n2 : IntKind.i64.wrap (((d.qs.length + d.bs.length : Nat) : Int) + ((d.ms.length : Nat) : Int)) = ((N : Nat) : Int) := by rw [wrap_i64 _ (by omega)]; omega
  simp only [vc_seq, vc_block, vc_ops, vcOps_nil, vcOps_cons, goL_apply, thenQ_normal, upd_same, upd_other, updO_some, ev_tmp, ev_const, initE_at, insVc, load1K, loadO_cells, loadV_some, iopK, iopV, faddrK, lenLK, Value.cells, ne_eq, not_false_eq_true, Nat.reduceEqDiff, reduceCtorEq, Option.getD_some, List.getElem?_cons_zero, List.getElem?_cons_succ, List.getElem?_toArray, true_and, or_false, Nat.zero_add, get_alloc_new, n1, n2]
  refine vc_loop (fun mm ρ ds u => ∃ i, i ≤ d.qs.length ∧ mm = d.qs.length - i ∧ ds = [] ∧ ρ 1 = ptr w.heap.size ∧ ρ 3 = .int .i64 ((N : Nat) : Int) ∧ ρ 22 = .slice a1 d.qs.length p1 ∧ ρ 23 = .int .i64 d.qs.length ∧ ρ 24 = .int .i64 i ∧
    Mod (fun _ => False) w u ∧ u.heap[w.heap.size]? = some (.cells #[.int .u64 d.clock, .int .u64 d.last, .slice a1 d.qs.length p1, .slice a2 d.bs.length p2, .slice a3 d.ms.length p3] 31 (0, 0)) ∧
    (0 < i → N ≤ 40) ∧ ∀ m ∈ d.qs.take i, m.small) d.qs.length ?_ ?_
  · refine ⟨0, Nat.zero_le _, rfl, rfl, ?_, ?_, ?_, ?_, ?_, (Mod.refl _ _).alloc _, get_alloc_new _ _, fun x => by omega, by simp⟩ <;> simp only [upd_same, upd_other, ne_eq, not_false_eq_true, Nat.reduceEqDiff]
    rfl
  · rintro mm ρ ds u ⟨i, hi, rfl, rfl, g1, g3, g22, g23, g24, hmu, hx, h40, hsm⟩
    by_cases hc : i < d.qs.length
    · have d1 : (i : Int) < ((d.qs.length : Nat) : Int) := by omega
      have hi0 : (0 : Int) ≤ (i : Int) ∧ (i : Int) < ((d.qs.length : Nat) : Int) := by omega
      obtain ⟨m, hm⟩ : ∃ m, d.qs[i]? = some m := ⟨d.qs[i], List.getElem?_eq_getElem hc⟩
      obtain ⟨b, o, cur, t, f, rfl, hb, hsz, hex⟩ := (hr.qs.keep hmu).at hm
      rw [Nat.add_assoc] at hsz hex
      have hw1 : IntKind.i64.wrap ((i : Int) + 1) = ((i + 1 : Nat) : Int) := by rw [wrap_i64 _ (by omega)]; omega
      obtain ⟨u1, hu1⟩ : ∃ u1, u1 = Vc.set (u.alloc (.cells #[.string ⟨#[]⟩, .int .u32 0, .int .u64 0, .int .u32 0, .string ⟨#[]⟩] 41)) u.heap.size (.cells #[.string m.name, .int .u32 m.most, .int .u64 m.ttl, .int .u32 m.tries, .string m.dead] 41) := ⟨_, rfl⟩
      have hmu1 : Mod (fun _ => False) u u1 := by rw [hu1]; exact ((Mod.refl _ _).alloc _).set (.inl (Nat.le_refl _))
      have hmw1 := hmu.trans hmu1
      have hne : w.heap.size ≠ u.heap.size := by have := lt_of_get hx; omega
      by_cases c1 : N > 40
      · have e1 : ((N : Nat) : Int) > 40 := by omega
        simp only [vc_skip, vc_seq, vc_cond, vc_block, vc_ret, vc_ops, vcOps_nil, vcOps_cons, vcOps_gate, gateK_false, gate_false, goL_apply, thenQ_normal, thenQ_ret, blockQ_ret, condP_true, upd_same, upd_other, updO_some, updO_none, ev_tmp, ev_const, endQ_ret, endK, resK, packed, insVc, pickK, loadV_some, loadNK, loadNO_cells, storeNK, storeNO_cells, setMany, iopK, iopV, iaddrK, isPlain, Value.cells, ne_eq, not_false_eq_true, Nat.reduceEqDiff, Nat.reduceAdd, Nat.reduceLeDiff, reduceCtorEq, Bool.not_true, List.size_toArray, List.length_cons, List.length_nil, List.setIfInBounds_toArray, List.set_cons_zero, List.set_cons_succ, List.nil_append, true_and, or_false, and_self, if_true, Nat.zero_add, decide_true, Bool.and_true, Int.toNat_natCast, List.all_toArray', List.all_cons, List.all_nil, get_alloc, Nat.add_assoc, Nat.reduceAdd, Nat.reduceEqDiff, g3, g22, g23, g24, d1, hi0, hb, hsz, hex, Qu.cells, e1]
        rw [← hu1]
        exact h u1 false hmw1 (fun x => by cases x)
      have e1 : ¬ ((N : Nat) : Int) > 40 := by omega
      obtain ⟨b1, b2, b3, _, _⟩ := hr.g1 m (List.mem_of_getElem? hm)
      simp only [vc_skip, vc_seq, vc_cond, vc_block, vc_ops, vcOps_nil, vcOps_cons, vcOps_gate, gateK_true, gate_false, goL_apply, thenQ_normal, condP_true, upd_same, upd_other, updO_some, updO_none, ev_tmp, ev_const, insVc, load1K, loadO_cells, loadV_some, loadNK, loadNO_cells, storeNK, storeNO_cells, setMany, iopK, iopV, faddrK, iaddrK, lenSK, isPlain, Value.cells, ne_eq, not_false_eq_true, Nat.reduceEqDiff, Nat.reduceAdd, Nat.reduceLeDiff, reduceCtorEq, Bool.not_false, List.getElem?_cons_zero, List.getElem?_cons_succ, List.getElem?_toArray, List.size_toArray, List.length_cons, List.length_nil, List.setIfInBounds_toArray, List.set_cons_zero, List.set_cons_succ, true_and, or_false, and_self, if_true, Nat.zero_add, Nat.add_zero, decide_true, decide_false, Bool.and_true, Int.toNat_natCast, List.all_toArray', List.all_cons, List.all_nil, size_alloc, get_set_same, Nat.lt_add_one, get_alloc, size_alloc, Nat.add_assoc, Nat.reduceAdd, Nat.reduceEqDiff, g3, g22, g23, g24, d1, hi0, hb, hsz, hex, Qu.cells, e1, lenSK]
      rw [← hu1]
      refine rawK_max rfl rfl rfl rfl rfl ?_
      by_cases c2 : max m.name.size m.dead.size > 400
      · have e2 : max ((m.name.size : Nat) : Int) ((m.dead.size : Nat) : Int) > 400 := by omega
        simp only [vc_seq, vc_cond, vc_ret, vc_ops, vcOps_nil, vcOps_cons, vcOps_gate, gateK_true, gate_false, goL_apply, thenQ_normal, thenQ_ret, blockQ_ret, condP_true, upd_same, upd_other, updO_some, ev_tmp, ev_const, endQ_ret, endK, resK, packed, insVc, pickK, loadV_some, iopK, iopV, ne_eq, not_false_eq_true, Nat.reduceEqDiff, reduceCtorEq, Bool.not_false, List.nil_append, true_and, or_false, if_false, Bool.false_eq_true, decide_true, e2]
        exact h u1 false hmw1 (fun x => by cases x)
      · have e2 : ¬ max ((m.name.size : Nat) : Int) ((m.dead.size : Nat) : Int) > 400 := by omega
        simp only [vc_skip, vc_cond, vc_ops, vcOps_nil, vcOps_cons, vcOps_gate, gateK_true, gate_false, goL_apply, thenQ_normal, blockQ_normal, condP_false, upd_same, upd_other, updO_some, ev_tmp, ev_const, insVc, pickK, loadV_some, iopK, iopV, ne_eq, not_false_eq_true, Nat.reduceEqDiff, reduceCtorEq, Bool.not_false, true_and, or_false, if_false, Bool.false_eq_true, decide_false, e2, g1, g3, g22, g23, g24, hw1]
        exact ⟨d.qs.length - (i + 1), by omega, i + 1, by omega, rfl, rfl, hmw1, hmu1.keep hx id, (fun _ => by omega), take_small hm hsm ⟨by omega, by omega, b1, b2, b3⟩⟩
    · have d1 : ¬ (i : Int) < ((d.qs.length : Nat) : Int) := by omega
      have hie : i = d.qs.length := by omega
      rw [hie, List.take_length] at hsm
      rw [hie] at h40
      simp only [vc_seq, vc_cond, vc_block, vc_exit, vc_ops, vcOps_nil, vcOps_cons, goL_apply, thenQ_normal, thenQ_exit, blockQ_same, condP_false, upd_same, upd_other, updO_some, ev_tmp, ev_const, insVc, load1K, loadO_cells, loadV_some, iopK, iopV, faddrK, lenLK, ne_eq, not_false_eq_true, Nat.reduceEqDiff, reduceCtorEq, List.getElem?_cons_zero, List.getElem?_cons_succ, List.getElem?_toArray, true_and, or_false, Nat.zero_add, decide_false, g1, g23, g24, d1, hx]
      have hmu0 := hmu
      have g3' := g3
      clear g22 g23 g24 d1
      refine vc_loop (fun mm ρ ds u => ∃ i, i ≤ d.bs.length ∧ mm = d.bs.length - i ∧ ds = [] ∧ ρ 1 = ptr w.heap.size ∧ ρ 3 = .int .i64 ((N : Nat) : Int) ∧ ρ 42 = .slice a2 d.bs.length p2 ∧ ρ 43 = .int .i64 d.bs.length ∧ ρ 44 = .int .i64 i ∧
        Mod (fun _ => False) w u ∧ u.heap[w.heap.size]? = some (.cells #[.int .u64 d.clock, .int .u64 d.last, .slice a1 d.qs.length p1, .slice a2 d.bs.length p2, .slice a3 d.ms.length p3] 31 (0, 0)) ∧
        (0 < i → N ≤ 40) ∧ ∀ m ∈ d.bs.take i, m.small) d.bs.length ?_ ?_
      · refine ⟨0, Nat.zero_le _, rfl, rfl, ?_, ?_, ?_, ?_, ?_, hmu, hx, fun x => by omega, by simp⟩ <;> simp only [upd_same, upd_other, ne_eq, not_false_eq_true, Nat.reduceEqDiff, g1, g3]
        rfl
      · rintro mm ρ ds u ⟨i, hi, rfl, rfl, g1, g3, g42, g43, g44, hmu, hx, h40b, hsmb⟩
        by_cases hc : i < d.bs.length
        · have d1 : (i : Int) < ((d.bs.length : Nat) : Int) := by omega
          have hi0 : (0 : Int) ≤ (i : Int) ∧ (i : Int) < ((d.bs.length : Nat) : Int) := by omega
          obtain ⟨m, hm⟩ : ∃ m, d.bs[i]? = some m := ⟨d.bs[i], List.getElem?_eq_getElem hc⟩
          obtain ⟨b, o, cur, t, f, rfl, hb, hsz, hex⟩ := (hr.bs.keep hmu).at hm
          rw [Nat.add_assoc] at hsz hex
          have hw1 : IntKind.i64.wrap ((i : Int) + 1) = ((i + 1 : Nat) : Int) := by rw [wrap_i64 _ (by omega)]; omega
          obtain ⟨u1, hu1⟩ : ∃ u1, u1 = Vc.set (u.alloc (.cells #[.string ⟨#[]⟩, .int .i64 0, .string ⟨#[]⟩, .string ⟨#[]⟩] 61)) u.heap.size (.cells #[.string m.ex, .int .i64 m.kind, .string m.key, .string m.queue] 61) := ⟨_, rfl⟩
          have hmu1 : Mod (fun _ => False) u u1 := by rw [hu1]; exact ((Mod.refl _ _).alloc _).set (.inl (Nat.le_refl _))
          have hmw1 := hmu.trans hmu1
          have hne : w.heap.size ≠ u.heap.size := by have := lt_of_get hx; omega
          by_cases c1 : N > 40
          · have e1 : ((N : Nat) : Int) > 40 := by omega
            simp only [vc_skip, vc_seq, vc_cond, vc_block, vc_ret, vc_ops, vcOps_nil, vcOps_cons, vcOps_gate, gateK_false, gate_false, goL_apply, thenQ_normal, thenQ_ret, blockQ_ret, condP_true, upd_same, upd_other, updO_some, updO_none, ev_tmp, ev_const, endQ_ret, endK, resK, packed, insVc, pickK, loadV_some, loadNK, loadNO_cells, storeNK, storeNO_cells, setMany, iopK, iopV, iaddrK, isPlain, Value.cells, ne_eq, not_false_eq_true, Nat.reduceEqDiff, Nat.reduceAdd, Nat.reduceLeDiff, reduceCtorEq, Bool.not_true, List.size_toArray, List.length_cons, List.length_nil, List.setIfInBounds_toArray, List.set_cons_zero, List.set_cons_succ, List.nil_append, true_and, or_false, and_self, if_true, Nat.zero_add, decide_true, Bool.and_true, Int.toNat_natCast, List.all_toArray', List.all_cons, List.all_nil, get_alloc, Nat.add_assoc, Nat.reduceAdd, Nat.reduceEqDiff, g3, g42, g43, g44, d1, hi0, hb, hsz, hex, Bd.cells, e1]
            rw [← hu1]
            exact h u1 false hmw1 (fun x => by cases x)
          have e1 : ¬ ((N : Nat) : Int) > 40 := by omega
          obtain ⟨b1, _, _, _⟩ := hr.g2 m (List.mem_of_getElem? hm)
          simp only [vc_skip, vc_seq, vc_cond, vc_block, vc_ops, vcOps_nil, vcOps_cons, vcOps_gate, gateK_true, gate_false, goL_apply, thenQ_normal, condP_true, upd_same, upd_other, updO_some, updO_none, ev_tmp, ev_const, insVc, load1K, loadO_cells, loadV_some, loadNK, loadNO_cells, storeNK, storeNO_cells, setMany, iopK, iopV, faddrK, iaddrK, lenSK, isPlain, Value.cells, ne_eq, not_false_eq_true, Nat.reduceEqDiff, Nat.reduceAdd, Nat.reduceLeDiff, reduceCtorEq, Bool.not_false, List.getElem?_cons_zero, List.getElem?_cons_succ, List.getElem?_toArray, List.size_toArray, List.length_cons, List.length_nil, List.setIfInBounds_toArray, List.set_cons_zero, List.set_cons_succ, true_and, or_false, and_self, if_true, Nat.zero_add, Nat.add_zero, decide_true, decide_false, Bool.and_true, Int.toNat_natCast, List.all_toArray', List.all_cons, List.all_nil, size_alloc, get_set_same, Nat.lt_add_one, get_alloc, size_alloc, Nat.add_assoc, Nat.reduceAdd, Nat.reduceEqDiff, g3, g42, g43, g44, d1, hi0, hb, hsz, hex, Bd.cells, e1, lenSK]
          rw [← hu1]
          refine rawK_max3 rfl rfl rfl rfl rfl rfl rfl ?_
          by_cases c2 : max (max m.ex.size m.key.size) m.queue.size > 400
          · have e2 : max (max ((m.ex.size : Nat) : Int) ((m.key.size : Nat) : Int)) ((m.queue.size : Nat) : Int) > 400 := by omega
            simp only [vc_seq, vc_cond, vc_ret, vc_ops, vcOps_nil, vcOps_cons, vcOps_gate, gateK_true, gate_false, goL_apply, thenQ_normal, thenQ_ret, blockQ_ret, condP_true, upd_same, upd_other, updO_some, ev_tmp, ev_const, endQ_ret, endK, resK, packed, insVc, pickK, loadV_some, iopK, iopV, ne_eq, not_false_eq_true, Nat.reduceEqDiff, reduceCtorEq, Bool.not_false, List.nil_append, true_and, or_false, if_false, Bool.false_eq_true, decide_true, e2]
            exact h u1 false hmw1 (fun x => by cases x)
          · have e2 : ¬ max (max ((m.ex.size : Nat) : Int) ((m.key.size : Nat) : Int)) ((m.queue.size : Nat) : Int) > 400 := by omega
            simp only [vc_skip, vc_cond, vc_ops, vcOps_nil, vcOps_cons, vcOps_gate, gateK_true, gate_false, goL_apply, thenQ_normal, blockQ_normal, condP_false, upd_same, upd_other, updO_some, ev_tmp, ev_const, insVc, pickK, loadV_some, iopK, iopV, ne_eq, not_false_eq_true, Nat.reduceEqDiff, reduceCtorEq, Bool.not_false, true_and, or_false, if_false, Bool.false_eq_true, decide_false, e2, g1, g3, g42, g43, g44, hw1]
            exact ⟨d.bs.length - (i + 1), by omega, i + 1, by omega, rfl, rfl, hmw1, hmu1.keep hx id, (fun _ => by omega), take_small hm hsmb ⟨b1, by omega, by omega, by omega⟩⟩
        · have d1 : ¬ (i : Int) < ((d.bs.length : Nat) : Int) := by omega
          have hie : i = d.bs.length := by omega
          rw [hie, List.take_length] at hsmb
          rw [hie] at h40b
          simp only [vc_seq, vc_cond, vc_block, vc_exit, vc_ops, vcOps_nil, vcOps_cons, goL_apply, thenQ_normal, thenQ_exit, blockQ_same, condP_false, upd_same, upd_other, updO_some, ev_tmp, ev_const, insVc, load1K, loadO_cells, loadV_some, iopK, iopV, faddrK, lenLK, ne_eq, not_false_eq_true, Nat.reduceEqDiff, reduceCtorEq, List.getElem?_cons_zero, List.getElem?_cons_succ, List.getElem?_toArray, true_and, or_false, Nat.zero_add, decide_false, g1, g43, g44, d1, hx]
          clear g42 g43 g44 d1
          refine vc_loop (fun mm ρ ds u => ∃ i, i ≤ d.ms.length ∧ mm = d.ms.length - i ∧ ds = [] ∧ ρ 1 = ptr w.heap.size ∧ ρ 3 = .int .i64 ((N : Nat) : Int) ∧ ρ 65 = .slice a3 d.ms.length p3 ∧ ρ 66 = .int .i64 d.ms.length ∧ ρ 67 = .int .i64 i ∧
            Mod (fun _ => False) w u ∧
            (0 < i → N ≤ 40) ∧ ∀ m ∈ d.ms.take i, m.small) d.ms.length ?_ ?_
          · refine ⟨0, Nat.zero_le _, rfl, rfl, ?_, ?_, ?_, ?_, ?_, hmu, fun x => by omega, by simp⟩ <;> simp only [upd_same, upd_other, ne_eq, not_false_eq_true, Nat.reduceEqDiff, g1, g3]
            rfl
          · rintro mm ρ ds u ⟨i, hi, rfl, rfl, g1, g3, g65, g66, g67, hmu, h40m, hsmm⟩
            by_cases hc : i < d.ms.length
            · have d1 : (i : Int) < ((d.ms.length : Nat) : Int) := by omega
              have hi0 : (0 : Int) ≤ (i : Int) ∧ (i : Int) < ((d.ms.length : Nat) : Int) := by omega
              obtain ⟨m, hm⟩ : ∃ m, d.ms[i]? = some m := ⟨d.ms[i], List.getElem?_eq_getElem hc⟩
              obtain ⟨b, o, cur, t, f, rfl, hb, hsz, hex⟩ := (hr.ms.keep hmu).at hm
              rw [Nat.add_assoc] at hsz hex
              have hw1 : IntKind.i64.wrap ((i : Int) + 1) = ((i + 1 : Nat) : Int) := by rw [wrap_i64 _ (by omega)]; omega
              obtain ⟨u1, hu1⟩ : ∃ u1, u1 = Vc.set (u.alloc (.cells #[.string ⟨#[]⟩, .int .u64 0, .int .u32 0, .int .u64 0, .string ⟨#[]⟩] 44)) u.heap.size (.cells #[.string m.queue, .int .u64 m.id, .int .u32 m.tries, .int .u64 m.expiry, .string m.body] 44) := ⟨_, rfl⟩
              have hmu1 : Mod (fun _ => False) u u1 := by rw [hu1]; exact ((Mod.refl _ _).alloc _).set (.inl (Nat.le_refl _))
              have hmw1 := hmu.trans hmu1
              by_cases c1 : N > 40
              · have e1 : ((N : Nat) : Int) > 40 := by omega
                simp only [vc_skip, vc_seq, vc_cond, vc_block, vc_ret, vc_ops, vcOps_nil, vcOps_cons, vcOps_gate, gateK_false, gate_false, goL_apply, thenQ_normal, thenQ_ret, blockQ_ret, condP_true, upd_same, upd_other, updO_some, updO_none, ev_tmp, ev_const, endQ_ret, endK, resK, packed, insVc, pickK, loadV_some, loadNK, loadNO_cells, storeNK, storeNO_cells, setMany, iopK, iopV, iaddrK, isPlain, Value.cells, ne_eq, not_false_eq_true, Nat.reduceEqDiff, Nat.reduceAdd, Nat.reduceLeDiff, reduceCtorEq, Bool.not_true, List.size_toArray, List.length_cons, List.length_nil, List.setIfInBounds_toArray, List.set_cons_zero, List.set_cons_succ, List.nil_append, true_and, or_false, and_self, if_true, Nat.zero_add, decide_true, Bool.and_true, Int.toNat_natCast, List.all_toArray', List.all_cons, List.all_nil, get_alloc, Nat.add_assoc, Nat.reduceAdd, Nat.reduceEqDiff, g3, g65, g66, g67, d1, hi0, hb, hsz, hex, Ms.cells, e1]
                rw [← hu1]
                exact h u1 false hmw1 (fun x => by cases x)
              have e1 : ¬ ((N : Nat) : Int) > 40 := by omega
              by_cases c2 : m.queue.size > 400
              · have e2 : ((m.queue.size : Nat) : Int) > 400 := by omega
                simp only [vc_skip, vc_seq, vc_cond, vc_block, vc_ret, vc_ops, vcOps_nil, vcOps_cons, vcOps_gate, gateK_true, gateK_false, gate_false, goL_apply, thenQ_normal, thenQ_ret, blockQ_ret, condP_true, upd_same, upd_other, updO_some, updO_none, ev_tmp, ev_const, endQ_ret, endK, resK, packed, insVc, pickK, load1K, loadO_cells, loadV_some, loadNK, loadNO_cells, storeNK, storeNO_cells, setMany, iopK, iopV, faddrK, iaddrK, lenSK, isPlain, Value.cells, ne_eq, not_false_eq_true, Nat.reduceEqDiff, Nat.reduceAdd, Nat.reduceLeDiff, reduceCtorEq, Bool.not_true, Bool.not_false, List.getElem?_cons_zero, List.getElem?_toArray, List.size_toArray, List.length_cons, List.length_nil, List.setIfInBounds_toArray, List.set_cons_zero, List.set_cons_succ, List.nil_append, true_and, or_false, and_self, if_true, if_false, Bool.false_eq_true, Nat.zero_add, Nat.add_zero, decide_true, decide_false, Bool.and_true, Int.toNat_natCast, List.all_toArray', List.all_cons, List.all_nil, size_alloc, get_set_same, Nat.lt_add_one, get_alloc, size_alloc, Nat.add_assoc, Nat.reduceAdd, Nat.reduceEqDiff, g3, g65, g66, g67, d1, hi0, hb, hsz, hex, Ms.cells, e1, lenSK, e2]
                rw [← hu1]
                exact h u1 false hmw1 (fun x => by cases x)
              have e2 : ¬ ((m.queue.size : Nat) : Int) > 400 := by omega
              by_cases c3 : m.body.size > 1000
              · have e3 : ((m.body.size : Nat) : Int) > 1000 := by omega
                simp only [vc_skip, vc_seq, vc_cond, vc_block, vc_ret, vc_ops, vcOps_nil, vcOps_cons, vcOps_gate, gateK_true, gate_false, goL_apply, thenQ_normal, thenQ_ret, blockQ_ret, condP_true, upd_same, upd_other, updO_some, updO_none, ev_tmp, ev_const, endQ_ret, endK, resK, packed, insVc, pickK, load1K, loadO_cells, loadV_some, loadNK, loadNO_cells, storeNK, storeNO_cells, setMany, iopK, iopV, faddrK, iaddrK, lenSK, isPlain, Value.cells, ne_eq, not_false_eq_true, Nat.reduceEqDiff, Nat.reduceAdd, Nat.reduceLeDiff, reduceCtorEq, Bool.not_false, List.getElem?_cons_zero, List.getElem?_cons_succ, List.getElem?_toArray, List.size_toArray, List.length_cons, List.length_nil, List.setIfInBounds_toArray, List.set_cons_zero, List.set_cons_succ, List.nil_append, true_and, or_false, and_self, if_true, if_false, Bool.false_eq_true, Nat.zero_add, Nat.add_zero, decide_true, decide_false, Bool.and_true, Int.toNat_natCast, List.all_toArray', List.all_cons, List.all_nil, size_alloc, get_set_same, Nat.lt_add_one, get_alloc, size_alloc, Nat.add_assoc, Nat.reduceAdd, Nat.reduceEqDiff, g3, g65, g66, g67, d1, hi0, hb, hsz, hex, Ms.cells, e1, lenSK, e2, e3]
                rw [← hu1]
                exact h u1 false hmw1 (fun x => by cases x)
              have e3 : ¬ ((m.body.size : Nat) : Int) > 1000 := by omega
              obtain ⟨b1, b2, b3, _, _⟩ := hr.g3 m (List.mem_of_getElem? hm)
              simp only [vc_skip, vc_seq, vc_cond, vc_block, vc_ops, vcOps_nil, vcOps_cons, vcOps_gate, gateK_true, gate_false, goL_apply, thenQ_normal, blockQ_normal, condP_true, condP_false, upd_same, upd_other, updO_some, updO_none, ev_tmp, ev_const, insVc, pickK, load1K, loadO_cells, loadV_some, loadNK, loadNO_cells, storeNK, storeNO_cells, setMany, iopK, iopV, faddrK, iaddrK, lenSK, isPlain, Value.cells, ne_eq, not_false_eq_true, Nat.reduceEqDiff, Nat.reduceAdd, Nat.reduceLeDiff, reduceCtorEq, Bool.not_false, List.getElem?_cons_zero, List.getElem?_cons_succ, List.getElem?_toArray, List.size_toArray, List.length_cons, List.length_nil, List.setIfInBounds_toArray, List.set_cons_zero, List.set_cons_succ, true_and, or_false, and_self, if_true, if_false, Bool.false_eq_true, Nat.zero_add, Nat.add_zero, decide_true, decide_false, Bool.and_true, Int.toNat_natCast, List.all_toArray', List.all_cons, List.all_nil, size_alloc, get_set_same, Nat.lt_add_one, get_alloc, size_alloc, Nat.add_assoc, Nat.reduceAdd, Nat.reduceEqDiff, g1, g3, g65, g66, g67, d1, hi0, hb, hsz, hex, Ms.cells, e1, lenSK, e2, e3, hw1]
              rw [← hu1]
              exact ⟨d.ms.length - (i + 1), by omega, i + 1, by omega, rfl, rfl, hmw1, (fun _ => by omega), take_small hm hsmm ⟨by omega, by omega, b1, b2, b3⟩⟩
            · have d1 : ¬ (i : Int) < ((d.ms.length : Nat) : Int) := by omega
              have hie : i = d.ms.length := by omega
              rw [hie, List.take_length] at hsmm
              rw [hie] at h40m
              simp only [vc_seq, vc_cond, vc_exit, vc_ret, vc_ops, vcOps_nil, vcOps_cons, goL_apply, thenQ_normal, thenQ_exit, blockQ_same, condP_false, upd_same, updO_some, ev_tmp, ev_const, endQ_ret, endK, resK, packed, insVc, loadV_some, iopK, iopV, reduceCtorEq, List.nil_append, true_and, or_false, decide_false, g66, g67, d1]
              refine h u true hmu (fun _ => ⟨?_, ?_, ?_, hsm, hsmb, hsmm⟩)
              · rcases Nat.eq_zero_or_pos d.qs.length with z | z
                · omega
                · have := h40 z; omega
              · rcases Nat.eq_zero_or_pos d.bs.length with z | z
                · omega
                · have := h40b z; omega
              · rcases Nat.eq_zero_or_pos d.ms.length with z | z
                · omega
                · have := h40m z; omega
end Go.Oct

namespace Go.Oct
open Go Go.Vc Go.VrA Go.VrB Go.VrD
set_option maxRecDepth 100000

/-! ### ReportLines -/

noncomputable def cRL5 : CC := subC c3 [1, 1, 1, 1, 1]
noncomputable def cRL4 : CC := subC c3 [1, 1, 1, 1]
noncomputable def cRL3 : CC := subC c3 [1, 1, 1]
theorem cRL_s : c3 = .seq (subC c3 [0]) (.seq (subC c3 [1, 0]) (.seq (subC c3 [1, 1, 0]) cRL3)) := rfl
theorem cRL3_s : cRL3 = .seq (subC c3 [1, 1, 1, 0]) cRL4 := rfl
theorem cRL4_s : cRL4 = .seq (subC c3 [1, 1, 1, 1, 0]) cRL5 := rfl

structure RLst (r : Ry) (d : Du) (c : Rt) (v1 v2 v3 v4 y1 y2 y3 z1 z2 z3 z4 z5 z6 : Value) (w u : World) (ρ : Env) : Prop where
  hmu : Mod (fun _ => False) w u
  xr : u.heap[w.heap.size]? = some (.cells #[.int .i64 r.err, .int .u64 r.n, v1, v2, v3, v4] 27 (0, 0))
  xd : u.heap[w.heap.size + 1]? = some (.cells #[.int .u64 d.clock, .int .u64 d.last, y1, y2, y3] 31 (0, 0))
  xc : u.heap[w.heap.size + 2]? = some (.cells #[z1, z2, z3, z4, z5, z6, .int .i64 c.pairs, .int .u64 c.bytes, .int .i64 c.depth] 34 (0, 0))
  r3 : ρ 3 = ptr w.heap.size
  r4 : ρ 4 = ptr (w.heap.size + 1)
  r5 : ρ 5 = ptr (w.heap.size + 2)

section
variable {r : Ry} {d : Du} {c : Rt} {v1 v2 v3 v4 y1 y2 y3 z1 z2 z3 z4 z5 z6 : Value} {w : World} {K : Value → World → Prop}

theorem rl5_c (ht : Tab w) (hr : IsRy w v1 v2 v3 v4 r) (hd : IsDu w y1 y2 y3 d) (hc : IsRt w z1 z2 z3 z4 z5 z6 c) (sr : r.small) (sd : d.small) (sc : c.small)
    (h : ∀ w', Mod (fun _ => False) w w' → K (.bool true) w') (ρ : Env) (u : World) (S : RLst r d c v1 v2 v3 v4 y1 y2 y3 z1 z2 z3 z4 z5 z6 w u ρ) : vc Proofs.Tryz.prog none 89 cRL5 (endQ Proofs.Tryz.prog r3 K) ρ [] u := by
  obtain ⟨hmu, xr, xd, xc, r3, r4', r5⟩ := S
  simp only [cRL5, subC, c3, vc_seq]
  refine draw_e (by kernel_rfl) (by kernel_rfl) (by kernel_rfl) (by kernel_rfl) ?_
  have e0 : Mod (fun _ => False) u u.drew := (Mod.refl _ _).drew
  have m0 := hmu.trans e0
  try simp only [vc_ret, thenQ_normal, upd_same, upd_other, updO_some, ev_tmp, ev_const, endQ_ret, endK, resK, packed, insVc, pickK, loadNK, loadNO_cells, ne_eq, not_false_eq_true, Nat.reduceEqDiff, Nat.reduceAdd, Nat.reduceLeDiff, List.map_cons, List.map_nil, List.size_toArray, List.length_cons, List.length_nil, List.nil_append, true_and, if_true, if_false, Bool.false_eq_true, Nat.zero_add, List.extract_toArray, List.extract_eq_take_drop, List.drop_zero, List.take_zero, List.take_succ_cons, Nat.sub_zero, pureI, kindI, loadI, vcE_nil, vcE_cons, vcE_gate, stepE_pure, stepE_load, stepE_step, r3, xr]
  refine ryreply_c r v1 v2 v3 v4 sr u.drew _ (ht.mod m0) (hr.keep m0) ?_
  intro u1 h1
  have e1 := e0.trans h1
  have m1 := hmu.trans e1
  refine ⟨e1, ?_⟩
  refine to_c r v1 v2 v3 v4 u1 _ (hr.keep m1) ?_
  intro u2 h2
  have e2 := e1.trans h2
  have m2 := hmu.trans e2
  refine ⟨e2, ?_⟩
  try simp only [vc_skip, vc_seq, vc_cond, vc_block, vc_exit, vc_ret, vc_ops, vcOps_nil, vcOps_cons, vcOps_gate, gateK_true, gateK_false, gate_true, gate_false, gate_undef, goL_apply, thenQ_normal, thenQ_ret, thenQ_exit, blockQ_normal, blockQ_ret, blockQ_same, blockQ_exit, condP_true, condP_false, upd_same, upd_other, updO_some, updO_none, ev_tmp, ev_const, ev_global, ev_func, endQ_ret, endQ_normal, endK, resK, resN, res1, resO_cells, resNO_cells, packed, initE_at, insVc, pickK, load1K, loadO_cells, loadV_some, loadV_none, loadNK, loadNO_cells, storeK, storeO_cells, storeNK, storeNO_cells, setMany, nilK, nilM, iopK, iopV, bopK, nilOf, pnilK, notK, convK, sameK, faddrK, fld1K, fldNK, iaddrK, iaddrAK, sidxK, extK, lenSK, lenLK, callvK, invK, buildK, fillL, buildSK, boundOf, slSK, slLK, slAK, isPlain, Value.cells, ne_eq, not_false_eq_true, not_true_eq_false, Nat.reduceEqDiff, Nat.reduceAdd, Nat.reduceLT, Nat.reduceLeDiff, reduceCtorEq, Bool.not_true, Bool.not_false, Option.map_some, Option.map_none, Option.getD_some, Option.getD_none, List.map_cons, List.map_nil, List.getElem?_cons_zero, List.getElem?_cons_succ, List.getElem?_nil, List.getElem?_toArray, List.size_toArray, List.length_cons, List.length_nil, List.zipIdx_cons, List.zipIdx_nil, List.foldl_cons, List.foldl_nil, List.setIfInBounds_toArray, List.set_cons_zero, List.set_cons_succ, List.append_eq, List.nil_append, List.cons_append, List.append_nil, List.toList_toArray, true_and, and_true, true_or, or_true, or_false, false_or, and_self, if_true, if_false, ite_true, ite_false, Bool.false_eq_true, Nat.zero_add, Nat.add_zero, decide_true, decide_false, Bool.and_true, Bool.and_false, Bool.true_and, Bool.false_and, Option.isNone_some, Option.isNone_none, Int.reduceLT, Int.reduceLE, Int.reduceToNat, Int.toNat_natCast, Int.reduceAdd, Int.reduceSub, Int.reduceMul, Int.reduceNeg, Int.reduceEq, Int.reduceNe, Int.reduceBEq, Int.reduceBNe, Nat.mul_one, List.extract_toArray, List.extract_eq_take_drop, List.drop_zero, List.drop_succ_cons, List.take_zero, List.take_succ_cons, Nat.sub_zero, Nat.add_sub_cancel, Nat.add_sub_cancel_left, vcS_nil, vcS_cons, vcS_gate, gateS_true, gateS_false, stepB_true, stepB_false, pureI, Nat.zero_mul, Nat.one_mul, Nat.reduceMul, Nat.reduceSub, List.all_toArray', List.all_cons, List.all_nil, size_set, size_alloc, size_drew, get_alloc_new, get_set_same, get_drew, Nat.lt_add_one, vcD_nil, vcD_cons, vcD_gate, gateD_true, gateD_false, stepD_pure, stepD_load, stepD_step, kindI, loadI, sopK_add, sopK_eql, sopK_neq, lenSK_mk, vcE_nil, vcE_cons, vcE_gate, gateE_true, gateE_false, stepE_pure, stepE_load, stepE_step, r3, r4', r5, xr, xd, xc]
  refine rreply_c r v1 v2 v3 v4 sr u2 _ (hr.keep m2) ?_
  intro u3 h3
  have e3 := e2.trans h3
  have m3 := hmu.trans e3
  refine ⟨e3, ?_⟩
  try simp only [gate_true, upd_same, upd_other, ev_tmp, insVc, loadNK, loadNO_cells, ne_eq, not_false_eq_true, Nat.reduceEqDiff, Nat.reduceAdd, Nat.reduceLeDiff, List.map_cons, List.map_nil, List.size_toArray, List.length_cons, List.length_nil, true_and, if_true, if_false, Bool.false_eq_true, Nat.zero_add, List.extract_toArray, List.extract_eq_take_drop, List.drop_zero, List.take_zero, List.take_succ_cons, Nat.sub_zero, pureI, kindI, loadI, sopK_eql, gateE_true, stepE_pure, stepE_load, stepE_step, r4', xd, beq_self_eq_true]
  refine dump_c d y1 y2 y3 sd u3 _ (ht.mod m3) (hd.keep m3) ?_
  intro u4 h4
  have e4 := e3.trans h4
  have m4 := hmu.trans e4
  refine ⟨e4, ?_⟩
  try simp only [vc_skip, vc_seq, vc_cond, vc_block, vc_exit, vc_ret, vc_ops, vcOps_nil, vcOps_cons, vcOps_gate, gateK_true, gateK_false, gate_true, gate_false, gate_undef, goL_apply, thenQ_normal, thenQ_ret, thenQ_exit, blockQ_normal, blockQ_ret, blockQ_same, blockQ_exit, condP_true, condP_false, upd_same, upd_other, updO_some, updO_none, ev_tmp, ev_const, ev_global, ev_func, endQ_ret, endQ_normal, endK, resK, resN, res1, resO_cells, resNO_cells, packed, initE_at, insVc, pickK, load1K, loadO_cells, loadV_some, loadV_none, loadNK, loadNO_cells, storeK, storeO_cells, storeNK, storeNO_cells, setMany, nilK, nilM, iopK, iopV, bopK, nilOf, pnilK, notK, convK, sameK, faddrK, fld1K, fldNK, iaddrK, iaddrAK, sidxK, extK, lenSK, lenLK, callvK, invK, buildK, fillL, buildSK, boundOf, slSK, slLK, slAK, isPlain, Value.cells, ne_eq, not_false_eq_true, not_true_eq_false, Nat.reduceEqDiff, Nat.reduceAdd, Nat.reduceLT, Nat.reduceLeDiff, reduceCtorEq, Bool.not_true, Bool.not_false, Option.map_some, Option.map_none, Option.getD_some, Option.getD_none, List.map_cons, List.map_nil, List.getElem?_cons_zero, List.getElem?_cons_succ, List.getElem?_nil, List.getElem?_toArray, List.size_toArray, List.length_cons, List.length_nil, List.zipIdx_cons, List.zipIdx_nil, List.foldl_cons, List.foldl_nil, List.setIfInBounds_toArray, List.set_cons_zero, List.set_cons_succ, List.append_eq, List.nil_append, List.cons_append, List.append_nil, List.toList_toArray, true_and, and_true, true_or, or_true, or_false, false_or, and_self, if_true, if_false, ite_true, ite_false, Bool.false_eq_true, Nat.zero_add, Nat.add_zero, decide_true, decide_false, Bool.and_true, Bool.and_false, Bool.true_and, Bool.false_and, Option.isNone_some, Option.isNone_none, Int.reduceLT, Int.reduceLE, Int.reduceToNat, Int.toNat_natCast, Int.reduceAdd, Int.reduceSub, Int.reduceMul, Int.reduceNeg, Int.reduceEq, Int.reduceNe, Int.reduceBEq, Int.reduceBNe, Nat.mul_one, List.extract_toArray, List.extract_eq_take_drop, List.drop_zero, List.drop_succ_cons, List.take_zero, List.take_succ_cons, Nat.sub_zero, Nat.add_sub_cancel, Nat.add_sub_cancel_left, vcS_nil, vcS_cons, vcS_gate, gateS_true, gateS_false, stepB_true, stepB_false, pureI, Nat.zero_mul, Nat.one_mul, Nat.reduceMul, Nat.reduceSub, List.all_toArray', List.all_cons, List.all_nil, size_set, size_alloc, size_drew, get_alloc_new, get_set_same, get_drew, Nat.lt_add_one, vcD_nil, vcD_cons, vcD_gate, gateD_true, gateD_false, stepD_pure, stepD_load, stepD_step, kindI, loadI, sopK_add, sopK_eql, sopK_neq, lenSK_mk, vcE_nil, vcE_cons, vcE_gate, gateE_true, gateE_false, stepE_pure, stepE_load, stepE_step, r3, r4', r5, xr, xd, xc]
  refine rdump_c d y1 y2 y3 sd u4 _ (hd.keep m4) ?_
  intro u5 h5
  have e5 := e4.trans h5
  have m5 := hmu.trans e5
  refine ⟨e5, ?_⟩
  try simp only [gate_true, upd_same, upd_other, ev_tmp, insVc, load1K, loadO_cells, loadV_some, loadNK, loadNO_cells, faddrK, ne_eq, not_false_eq_true, Nat.reduceEqDiff, Nat.reduceAdd, Nat.reduceLeDiff, List.map_cons, List.map_nil, List.getElem?_cons_zero, List.getElem?_cons_succ, List.getElem?_toArray, List.size_toArray, List.length_cons, List.length_nil, true_and, if_true, if_false, Bool.false_eq_true, Nat.zero_add, Nat.add_zero, List.extract_toArray, List.extract_eq_take_drop, List.drop_zero, List.take_zero, List.take_succ_cons, Nat.sub_zero, pureI, kindI, loadI, sopK_eql, gateE_true, stepE_pure, stepE_load, stepE_step, r5, xc, beq_self_eq_true]
  refine pages_c c z1 z2 z3 z4 z5 z6 sc u5 _ (ht.mod m5) (hc.keep m5) ?_
  intro u6 h6
  have e6 := e5.trans h6
  have m6 := hmu.trans e6
  refine ⟨e6, ?_⟩
  try simp only [vc_skip, vc_seq, vc_cond, vc_block, vc_exit, vc_ret, vc_ops, vcOps_nil, vcOps_cons, vcOps_gate, gateK_true, gateK_false, gate_true, gate_false, gate_undef, goL_apply, thenQ_normal, thenQ_ret, thenQ_exit, blockQ_normal, blockQ_ret, blockQ_same, blockQ_exit, condP_true, condP_false, upd_same, upd_other, updO_some, updO_none, ev_tmp, ev_const, ev_global, ev_func, endQ_ret, endQ_normal, endK, resK, resN, res1, resO_cells, resNO_cells, packed, initE_at, insVc, pickK, load1K, loadO_cells, loadV_some, loadV_none, loadNK, loadNO_cells, storeK, storeO_cells, storeNK, storeNO_cells, setMany, nilK, nilM, iopK, iopV, bopK, nilOf, pnilK, notK, convK, sameK, faddrK, fld1K, fldNK, iaddrK, iaddrAK, sidxK, extK, lenSK, lenLK, callvK, invK, buildK, fillL, buildSK, boundOf, slSK, slLK, slAK, isPlain, Value.cells, ne_eq, not_false_eq_true, not_true_eq_false, Nat.reduceEqDiff, Nat.reduceAdd, Nat.reduceLT, Nat.reduceLeDiff, reduceCtorEq, Bool.not_true, Bool.not_false, Option.map_some, Option.map_none, Option.getD_some, Option.getD_none, List.map_cons, List.map_nil, List.getElem?_cons_zero, List.getElem?_cons_succ, List.getElem?_nil, List.getElem?_toArray, List.size_toArray, List.length_cons, List.length_nil, List.zipIdx_cons, List.zipIdx_nil, List.foldl_cons, List.foldl_nil, List.setIfInBounds_toArray, List.set_cons_zero, List.set_cons_succ, List.append_eq, List.nil_append, List.cons_append, List.append_nil, List.toList_toArray, true_and, and_true, true_or, or_true, or_false, false_or, and_self, if_true, if_false, ite_true, ite_false, Bool.false_eq_true, Nat.zero_add, Nat.add_zero, decide_true, decide_false, Bool.and_true, Bool.and_false, Bool.true_and, Bool.false_and, Option.isNone_some, Option.isNone_none, Int.reduceLT, Int.reduceLE, Int.reduceToNat, Int.toNat_natCast, Int.reduceAdd, Int.reduceSub, Int.reduceMul, Int.reduceNeg, Int.reduceEq, Int.reduceNe, Int.reduceBEq, Int.reduceBNe, Nat.mul_one, List.extract_toArray, List.extract_eq_take_drop, List.drop_zero, List.drop_succ_cons, List.take_zero, List.take_succ_cons, Nat.sub_zero, Nat.add_sub_cancel, Nat.add_sub_cancel_left, vcS_nil, vcS_cons, vcS_gate, gateS_true, gateS_false, stepB_true, stepB_false, pureI, Nat.zero_mul, Nat.one_mul, Nat.reduceMul, Nat.reduceSub, List.all_toArray', List.all_cons, List.all_nil, size_set, size_alloc, size_drew, get_alloc_new, get_set_same, get_drew, Nat.lt_add_one, vcD_nil, vcD_cons, vcD_gate, gateD_true, gateD_false, stepD_pure, stepD_load, stepD_step, kindI, loadI, sopK_add, sopK_eql, sopK_neq, lenSK_mk, vcE_nil, vcE_cons, vcE_gate, gateE_true, gateE_false, stepE_pure, stepE_load, stepE_step, r3, r4', r5, xr, xd, xc]
  refine rpages_c c z1 z2 z3 z4 z5 z6 sc u6 _ (hc.keep m6) ?_
  intro u7 h7
  have e7 := e6.trans h7
  have m7 := hmu.trans e7
  refine ⟨e7, ?_⟩
  try simp only [sopK_eql, beq_self_eq_true]
  exact h u7 m7
end
end Go.Oct
