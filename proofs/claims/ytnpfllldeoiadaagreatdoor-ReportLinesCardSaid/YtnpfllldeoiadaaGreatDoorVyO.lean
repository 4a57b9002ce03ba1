import Derived.Test.YtnpfllldeoiadaaGreatDoorVyN
set_option linter.unusedSimpArgs false
set_option linter.unusedVariables false
set_option linter.unusedSectionVars false
set_option linter.unnecessarySimpa false
namespace Go.Oct
open Go Go.Vc Go.VrA Go.VrB Go.VrD
set_option maxRecDepth 100000

/-! ### ReportLines, whole -/

section
variable {r : Ry} {d : Du} {c : Rt} {v1 v2 v3 v4 y1 y2 y3 z1 z2 z3 z4 z5 z6 : Value} {w : World} {K : Value → World → Prop}

theorem rl4_c (ht : Tab w) (hr : IsRy w v1 v2 v3 v4 r) (hd : IsDu w y1 y2 y3 d) (hc : IsRt w z1 z2 z3 z4 z5 z6 c) (sr : r.small) (sd : d.small) (sc : c.small)
    (h : ∀ w', Mod (fun _ => False) w w' → K (.bool true) w') (ρ : Env) (u : World) (S : RLst r d c v1 v2 v3 v4 y1 y2 y3 z1 z2 z3 z4 z5 z6 w u ρ) : vc Proofs.Tryz.prog none 89 cRL4 (endQ Proofs.Tryz.prog r3 K) ρ [] u := by
  obtain ⟨⟨a, cp, hve⟩, _⟩ := id hr.list
  have hv := hr.list
  have hl40 := sr.l4
  rw [hve] at hv
  rw [cRL4_s]
  have S0 := S
  obtain ⟨hmu0, xr0, xd0, xc0, q3, q4, q5⟩ := S
  rw [hve] at xr0
  simp only [subC, c3, vc_seq, vc_block, vc_ops, vcOps_nil, vcOps_cons, goL_apply, thenQ_normal, upd_same, updO_some, ev_tmp, ev_const, insVc, load1K, loadO_cells, loadV_some, faddrK, lenLK, List.getElem?_cons_zero, List.getElem?_cons_succ, List.getElem?_toArray, Nat.zero_add, q3, xr0]
  refine vc_loop (fun mm ρ ds u => ∃ i, i ≤ r.list.length ∧ mm = r.list.length - i ∧ ds = [] ∧ RLst r d c v1 v2 v3 v4 y1 y2 y3 z1 z2 z3 z4 z5 z6 w u ρ ∧ ρ 40 = .slice a r.list.length cp ∧ ρ 41 = .int .i64 r.list.length ∧ ρ 42 = .int .i64 i) r.list.length ?_ ?_
  · refine ⟨0, Nat.zero_le _, rfl, rfl, ⟨hmu0, S0.xr, xd0, xc0, ?_, ?_, ?_⟩, ?_, ?_, ?_⟩ <;> simp only [upd_same, upd_other, ne_eq, not_false_eq_true, Nat.reduceEqDiff, q3, q4, q5]
    rfl
  · rintro mm ρ ds u ⟨i, hi, rfl, rfl, S, g40, g41, g42⟩
    by_cases hc' : i < r.list.length
    · have S1 := S
      obtain ⟨hmu, xr, xd, xc, r3, r4', r5⟩ := S
      have d1 : (i : Int) < ((r.list.length : Nat) : Int) := by omega
      have hi0 : (0 : Int) ≤ (i : Int) ∧ (i : Int) < ((r.list.length : Nat) : Int) := by omega
      obtain ⟨m, hm⟩ : ∃ m, r.list[i]? = some m := ⟨r.list[i], List.getElem?_eq_getElem hc'⟩
      have hms := sr.g m (List.mem_of_getElem? hm)
      obtain ⟨b, o, cur, t, f, rfl, hb, hsz, hex⟩ := (hv.keep hmu).at hm
      rw [Nat.add_assoc] at hsz hex
      have hw1 : IntKind.i64.wrap ((i : Int) + 1) = ((i + 1 : Nat) : Int) := by rw [wrap_i64 _ (by omega)]; omega
      obtain ⟨u1, hu1⟩ : ∃ u1, u1 = Vc.set (u.alloc (.cells #[.string ⟨#[]⟩, .int .u64 0, .int .u32 0, .int .u64 0, .string ⟨#[]⟩] 44)) u.heap.size (.cells #[.string m.queue, .int .u64 m.id, .int .u32 m.tries, .int .u64 m.expiry, .string m.body] 44) := ⟨_, rfl⟩
      have hmu1 : Mod (fun _ => False) u u1 := by rw [hu1]; exact ((Mod.refl _ _).alloc _).set (.inl (Nat.le_refl _))
      have x1 : u1.heap[u.heap.size]? = some (.cells #[.string m.queue, .int .u64 m.id, .int .u32 m.tries, .int .u64 m.expiry, .string m.body] 44 (0, 0)) := by rw [hu1]; exact get_set_same _ _ _ (by rw [size_alloc]; omega)
      simp only [vc_skip, vc_seq, vc_cond, vc_block, vc_ops, vcOps_nil, vcOps_cons, goL_apply, thenQ_normal, condP_true, upd_same, upd_other, updO_some, updO_none, ev_tmp, insVc, loadV_some, loadNK, loadNO_cells, storeNK, storeNO_cells, setMany, iopK, iopV, iaddrK, isPlain, Value.cells, ne_eq, not_false_eq_true, Nat.reduceEqDiff, Nat.reduceAdd, Nat.reduceLeDiff, reduceCtorEq, List.size_toArray, List.length_cons, List.length_nil, List.setIfInBounds_toArray, List.set_cons_zero, List.set_cons_succ, true_and, or_false, and_self, if_true, Nat.zero_add, decide_true, Bool.and_true, Int.toNat_natCast, List.all_toArray', List.all_cons, List.all_nil, get_alloc, Nat.add_assoc, Nat.reduceAdd, Nat.reduceEqDiff, g40, g41, g42, d1, hi0, hb, hsz, hex, Ms.cells]
      rw [← hu1]
      refine draw_e (by kernel_rfl) (by kernel_rfl) (by kernel_rfl) (by kernel_rfl) ?_
      simp only [vc_cond, thenQ_normal, upd_same, upd_other, updO_some, ev_tmp, insVc, loadNK, loadNO_cells, ne_eq, not_false_eq_true, Nat.reduceEqDiff, Nat.reduceAdd, Nat.reduceLeDiff, List.map_cons, List.map_nil, List.size_toArray, List.length_cons, List.length_nil, true_and, if_true, if_false, Bool.false_eq_true, Nat.zero_add, List.extract_toArray, List.extract_eq_take_drop, List.drop_zero, List.take_zero, List.take_succ_cons, Nat.sub_zero, pureI, kindI, loadI, vcE_nil, vcE_cons, stepE_pure, stepE_load, stepE_step, x1]
      have e0 : Mod (fun _ => False) u1 u1.drew := (Mod.refl _ _).drew
      have ht1 := ht.mod ((hmu.trans hmu1).trans e0)
      refine msg_c m hms u1.drew _ ht1 ?_
      intro u2 h2
      have e2 := e0.trans h2
      refine ⟨e2, ?_⟩
      try simp only [vc_skip, vc_seq, vc_cond, vc_block, vc_exit, vc_ret, vc_ops, vcOps_nil, vcOps_cons, vcOps_gate, gateK_true, gateK_false, gate_true, gate_false, gate_undef, goL_apply, thenQ_normal, thenQ_ret, thenQ_exit, blockQ_normal, blockQ_ret, blockQ_same, blockQ_exit, condP_true, condP_false, upd_same, upd_other, updO_some, updO_none, ev_tmp, ev_const, ev_global, ev_func, endQ_ret, endQ_normal, endK, resK, resN, res1, resO_cells, resNO_cells, packed, initE_at, insVc, pickK, load1K, loadO_cells, loadV_some, loadV_none, loadNK, loadNO_cells, storeK, storeO_cells, storeNK, storeNO_cells, setMany, nilK, nilM, iopK, iopV, bopK, nilOf, pnilK, notK, convK, sameK, faddrK, fld1K, fldNK, iaddrK, iaddrAK, sidxK, extK, lenSK, lenLK, callvK, invK, buildK, fillL, buildSK, boundOf, slSK, slLK, slAK, isPlain, Value.cells, ne_eq, not_false_eq_true, not_true_eq_false, Nat.reduceEqDiff, Nat.reduceAdd, Nat.reduceLT, Nat.reduceLeDiff, reduceCtorEq, Bool.not_true, Bool.not_false, Option.map_some, Option.map_none, Option.getD_some, Option.getD_none, List.map_cons, List.map_nil, List.getElem?_cons_zero, List.getElem?_cons_succ, List.getElem?_nil, List.getElem?_toArray, List.size_toArray, List.length_cons, List.length_nil, List.zipIdx_cons, List.zipIdx_nil, List.foldl_cons, List.foldl_nil, List.setIfInBounds_toArray, List.set_cons_zero, List.set_cons_succ, List.append_eq, List.nil_append, List.cons_append, List.append_nil, List.toList_toArray, true_and, and_true, true_or, or_true, or_false, false_or, and_self, if_true, if_false, ite_true, ite_false, Bool.false_eq_true, Nat.zero_add, Nat.add_zero, decide_true, decide_false, Bool.and_true, Bool.and_false, Bool.true_and, Bool.false_and, Option.isNone_some, Option.isNone_none, Int.reduceLT, Int.reduceLE, Int.reduceToNat, Int.toNat_natCast, Int.reduceAdd, Int.reduceSub, Int.reduceMul, Int.reduceNeg, Int.reduceEq, Int.reduceNe, Int.reduceBEq, Int.reduceBNe, Nat.mul_one, List.extract_toArray, List.extract_eq_take_drop, List.drop_zero, List.drop_succ_cons, List.take_zero, List.take_succ_cons, Nat.sub_zero, Nat.add_sub_cancel, Nat.add_sub_cancel_left, vcS_nil, vcS_cons, vcS_gate, gateS_true, gateS_false, stepB_true, stepB_false, pureI, Nat.zero_mul, Nat.one_mul, Nat.reduceMul, Nat.reduceSub, List.all_toArray', List.all_cons, List.all_nil, size_set, size_alloc, size_drew, get_alloc_new, get_set_same, get_drew, Nat.lt_add_one, vcD_nil, vcD_cons, vcD_gate, gateD_true, gateD_false, stepD_pure, stepD_load, stepD_step, kindI, loadI, sopK_add, sopK_eql, sopK_neq, lenSK_mk, vcE_nil, vcE_cons, vcE_gate, gateE_true, gateE_false, stepE_pure, stepE_load, stepE_step, x1]
      refine rmsg_c m hms u2 _ ?_
      intro u3 h3
      have e3 := e2.trans h3
      refine ⟨e3, ?_⟩
      have m3 := hmu1.trans e3
      simp only [vc_skip, vc_ops, vcOps_nil, vcOps_cons, goL_apply, thenQ_normal, blockQ_normal, condP_false, upd_same, upd_other, updO_some, ev_tmp, ev_const, insVc, loadV_some, iopK, iopV, ne_eq, not_false_eq_true, Nat.reduceEqDiff, reduceCtorEq, Bool.not_true, true_and, or_false, sopK_neq, beq_self_eq_true, g40, g41, g42, hw1]
      exact ⟨r.list.length - (i + 1), by omega, i + 1, by omega, rfl, ⟨hmu.trans m3, m3.keep xr id, m3.keep xd id, m3.keep xc id, by simp only [upd_other, ne_eq, not_false_eq_true, Nat.reduceEqDiff, r3], by simp only [upd_other, ne_eq, not_false_eq_true, Nat.reduceEqDiff, r4'], by simp only [upd_other, ne_eq, not_false_eq_true, Nat.reduceEqDiff, r5]⟩, rfl⟩
    · have d1 : ¬ (i : Int) < ((r.list.length : Nat) : Int) := by omega
      simp only [vc_seq, vc_cond, vc_exit, vc_ops, vcOps_nil, vcOps_cons, goL_apply, thenQ_normal, thenQ_exit, blockQ_same, condP_false, upd_same, updO_some, ev_tmp, insVc, loadV_some, iopK, iopV, reduceCtorEq, true_and, or_false, decide_false, g41, g42, d1]
      obtain ⟨hmu, xr, xd, xc, r3, r4', r5⟩ := S
      exact rl5_c ht hr hd hc sr sd sc h _ u ⟨hmu, xr, xd, xc, by simp only [upd_other, ne_eq, not_false_eq_true, Nat.reduceEqDiff, r3], by simp only [upd_other, ne_eq, not_false_eq_true, Nat.reduceEqDiff, r4'], by simp only [upd_other, ne_eq, not_false_eq_true, Nat.reduceEqDiff, r5]⟩

theorem rl3_c (ht : Tab w) (hr : IsRy w v1 v2 v3 v4 r) (hd : IsDu w y1 y2 y3 d) (hc : IsRt w z1 z2 z3 z4 z5 z6 c) (sr : r.small) (sd : d.small) (sc : c.small)
    (h : ∀ w', Mod (fun _ => False) w w' → K (.bool true) w') (ρ : Env) (u : World) (S : RLst r d c v1 v2 v3 v4 y1 y2 y3 z1 z2 z3 z4 z5 z6 w u ρ) : vc Proofs.Tryz.prog none 89 cRL3 (endQ Proofs.Tryz.prog r3 K) ρ [] u := by
  obtain ⟨⟨a, cp, hve⟩, _⟩ := id hd.qs
  have hv := hd.qs
  have hl40 := sd.l1
  rw [hve] at hv
  rw [cRL3_s]
  have S0 := S
  obtain ⟨hmu0, xr0, xd0, xc0, q3, q4, q5⟩ := S
  rw [hve] at xd0
  simp only [subC, c3, vc_seq, vc_block, vc_ops, vcOps_nil, vcOps_cons, goL_apply, thenQ_normal, upd_same, updO_some, ev_tmp, ev_const, insVc, load1K, loadO_cells, loadV_some, faddrK, lenLK, List.getElem?_cons_zero, List.getElem?_cons_succ, List.getElem?_toArray, Nat.zero_add, q4, xd0]
  refine vc_loop (fun mm ρ ds u => ∃ i, i ≤ d.qs.length ∧ mm = d.qs.length - i ∧ ds = [] ∧ RLst r d c v1 v2 v3 v4 y1 y2 y3 z1 z2 z3 z4 z5 z6 w u ρ ∧ ρ 27 = .slice a d.qs.length cp ∧ ρ 28 = .int .i64 d.qs.length ∧ ρ 29 = .int .i64 i) d.qs.length ?_ ?_
  · refine ⟨0, Nat.zero_le _, rfl, rfl, ⟨hmu0, xr0, S0.xd, xc0, ?_, ?_, ?_⟩, ?_, ?_, ?_⟩ <;> simp only [upd_same, upd_other, ne_eq, not_false_eq_true, Nat.reduceEqDiff, q3, q4, q5]
    rfl
  · rintro mm ρ ds u ⟨i, hi, rfl, rfl, S, g27, g28, g29⟩
    by_cases hc' : i < d.qs.length
    · have S1 := S
      obtain ⟨hmu, xr, xd, xc, r3, r4', r5⟩ := S
      have d1 : (i : Int) < ((d.qs.length : Nat) : Int) := by omega
      have hi0 : (0 : Int) ≤ (i : Int) ∧ (i : Int) < ((d.qs.length : Nat) : Int) := by omega
      obtain ⟨m, hm⟩ : ∃ m, d.qs[i]? = some m := ⟨d.qs[i], List.getElem?_eq_getElem hc'⟩
      have hms := sd.g1 m (List.mem_of_getElem? hm)
      obtain ⟨b, o, cur, t, f, rfl, hb, hsz, hex⟩ := (hv.keep hmu).at hm
      rw [Nat.add_assoc] at hsz hex
      have hw1 : IntKind.i64.wrap ((i : Int) + 1) = ((i + 1 : Nat) : Int) := by rw [wrap_i64 _ (by omega)]; omega
      obtain ⟨u1, hu1⟩ : ∃ u1, u1 = Vc.set (u.alloc (.cells #[.string ⟨#[]⟩, .int .u32 0, .int .u64 0, .int .u32 0, .string ⟨#[]⟩] 41)) u.heap.size (.cells #[.string m.name, .int .u32 m.most, .int .u64 m.ttl, .int .u32 m.tries, .string m.dead] 41) := ⟨_, rfl⟩
      have hmu1 : Mod (fun _ => False) u u1 := by rw [hu1]; exact ((Mod.refl _ _).alloc _).set (.inl (Nat.le_refl _))
      have x1 : u1.heap[u.heap.size]? = some (.cells #[.string m.name, .int .u32 m.most, .int .u64 m.ttl, .int .u32 m.tries, .string m.dead] 41 (0, 0)) := by rw [hu1]; exact get_set_same _ _ _ (by rw [size_alloc]; omega)
      simp only [vc_skip, vc_seq, vc_cond, vc_block, vc_ops, vcOps_nil, vcOps_cons, goL_apply, thenQ_normal, condP_true, upd_same, upd_other, updO_some, updO_none, ev_tmp, insVc, loadV_some, loadNK, loadNO_cells, storeNK, storeNO_cells, setMany, iopK, iopV, iaddrK, isPlain, Value.cells, ne_eq, not_false_eq_true, Nat.reduceEqDiff, Nat.reduceAdd, Nat.reduceLeDiff, reduceCtorEq, List.size_toArray, List.length_cons, List.length_nil, List.setIfInBounds_toArray, List.set_cons_zero, List.set_cons_succ, true_and, or_false, and_self, if_true, Nat.zero_add, decide_true, Bool.and_true, Int.toNat_natCast, List.all_toArray', List.all_cons, List.all_nil, get_alloc, Nat.add_assoc, Nat.reduceAdd, Nat.reduceEqDiff, g27, g28, g29, d1, hi0, hb, hsz, hex, Qu.cells]
      rw [← hu1]
      refine draw_e (by kernel_rfl) (by kernel_rfl) (by kernel_rfl) (by kernel_rfl) ?_
      simp only [vc_cond, thenQ_normal, upd_same, upd_other, updO_some, ev_tmp, insVc, loadNK, loadNO_cells, ne_eq, not_false_eq_true, Nat.reduceEqDiff, Nat.reduceAdd, Nat.reduceLeDiff, List.map_cons, List.map_nil, List.size_toArray, List.length_cons, List.length_nil, true_and, if_true, if_false, Bool.false_eq_true, Nat.zero_add, List.extract_toArray, List.extract_eq_take_drop, List.drop_zero, List.take_zero, List.take_succ_cons, Nat.sub_zero, pureI, kindI, loadI, vcE_nil, vcE_cons, stepE_pure, stepE_load, stepE_step, x1]
      have e0 : Mod (fun _ => False) u1 u1.drew := (Mod.refl _ _).drew
      have ht1 := ht.mod ((hmu.trans hmu1).trans e0)
      refine qu_c m hms u1.drew _ ht1 ?_
      intro u2 h2
      have e2 := e0.trans h2
      refine ⟨e2, ?_⟩
      try simp only [vc_skip, vc_seq, vc_cond, vc_block, vc_exit, vc_ret, vc_ops, vcOps_nil, vcOps_cons, vcOps_gate, gateK_true, gateK_false, gate_true, gate_false, gate_undef, goL_apply, thenQ_normal, thenQ_ret, thenQ_exit, blockQ_normal, blockQ_ret, blockQ_same, blockQ_exit, condP_true, condP_false, upd_same, upd_other, updO_some, updO_none, ev_tmp, ev_const, ev_global, ev_func, endQ_ret, endQ_normal, endK, resK, resN, res1, resO_cells, resNO_cells, packed, initE_at, insVc, pickK, load1K, loadO_cells, loadV_some, loadV_none, loadNK, loadNO_cells, storeK, storeO_cells, storeNK, storeNO_cells, setMany, nilK, nilM, iopK, iopV, bopK, nilOf, pnilK, notK, convK, sameK, faddrK, fld1K, fldNK, iaddrK, iaddrAK, sidxK, extK, lenSK, lenLK, callvK, invK, buildK, fillL, buildSK, boundOf, slSK, slLK, slAK, isPlain, Value.cells, ne_eq, not_false_eq_true, not_true_eq_false, Nat.reduceEqDiff, Nat.reduceAdd, Nat.reduceLT, Nat.reduceLeDiff, reduceCtorEq, Bool.not_true, Bool.not_false, Option.map_some, Option.map_none, Option.getD_some, Option.getD_none, List.map_cons, List.map_nil, List.getElem?_cons_zero, List.getElem?_cons_succ, List.getElem?_nil, List.getElem?_toArray, List.size_toArray, List.length_cons, List.length_nil, List.zipIdx_cons, List.zipIdx_nil, List.foldl_cons, List.foldl_nil, List.setIfInBounds_toArray, List.set_cons_zero, List.set_cons_succ, List.append_eq, List.nil_append, List.cons_append, List.append_nil, List.toList_toArray, true_and, and_true, true_or, or_true, or_false, false_or, and_self, if_true, if_false, ite_true, ite_false, Bool.false_eq_true, Nat.zero_add, Nat.add_zero, decide_true, decide_false, Bool.and_true, Bool.and_false, Bool.true_and, Bool.false_and, Option.isNone_some, Option.isNone_none, Int.reduceLT, Int.reduceLE, Int.reduceToNat, Int.toNat_natCast, Int.reduceAdd, Int.reduceSub, Int.reduceMul, Int.reduceNeg, Int.reduceEq, Int.reduceNe, Int.reduceBEq, Int.reduceBNe, Nat.mul_one, List.extract_toArray, List.extract_eq_take_drop, List.drop_zero, List.drop_succ_cons, List.take_zero, List.take_succ_cons, Nat.sub_zero, Nat.add_sub_cancel, Nat.add_sub_cancel_left, vcS_nil, vcS_cons, vcS_gate, gateS_true, gateS_false, stepB_true, stepB_false, pureI, Nat.zero_mul, Nat.one_mul, Nat.reduceMul, Nat.reduceSub, List.all_toArray', List.all_cons, List.all_nil, size_set, size_alloc, size_drew, get_alloc_new, get_set_same, get_drew, Nat.lt_add_one, vcD_nil, vcD_cons, vcD_gate, gateD_true, gateD_false, stepD_pure, stepD_load, stepD_step, kindI, loadI, sopK_add, sopK_eql, sopK_neq, lenSK_mk, vcE_nil, vcE_cons, vcE_gate, gateE_true, gateE_false, stepE_pure, stepE_load, stepE_step, x1]
      refine rqu_c m hms u2 _ ?_
      intro u3 h3
      have e3 := e2.trans h3
      refine ⟨e3, ?_⟩
      have m3 := hmu1.trans e3
      simp only [vc_skip, vc_ops, vcOps_nil, vcOps_cons, goL_apply, thenQ_normal, blockQ_normal, condP_false, upd_same, upd_other, updO_some, ev_tmp, ev_const, insVc, loadV_some, iopK, iopV, ne_eq, not_false_eq_true, Nat.reduceEqDiff, reduceCtorEq, Bool.not_true, true_and, or_false, sopK_neq, beq_self_eq_true, g27, g28, g29, hw1]
      exact ⟨d.qs.length - (i + 1), by omega, i + 1, by omega, rfl, ⟨hmu.trans m3, m3.keep xr id, m3.keep xd id, m3.keep xc id, by simp only [upd_other, ne_eq, not_false_eq_true, Nat.reduceEqDiff, r3], by simp only [upd_other, ne_eq, not_false_eq_true, Nat.reduceEqDiff, r4'], by simp only [upd_other, ne_eq, not_false_eq_true, Nat.reduceEqDiff, r5]⟩, rfl⟩
    · have d1 : ¬ (i : Int) < ((d.qs.length : Nat) : Int) := by omega
      simp only [vc_seq, vc_cond, vc_exit, vc_ops, vcOps_nil, vcOps_cons, goL_apply, thenQ_normal, thenQ_exit, blockQ_same, condP_false, upd_same, updO_some, ev_tmp, insVc, loadV_some, iopK, iopV, reduceCtorEq, true_and, or_false, decide_false, g28, g29, d1]
      obtain ⟨hmu, xr, xd, xc, r3, r4', r5⟩ := S
      exact rl4_c ht hr hd hc sr sd sc h _ u ⟨hmu, xr, xd, xc, by simp only [upd_other, ne_eq, not_false_eq_true, Nat.reduceEqDiff, r3], by simp only [upd_other, ne_eq, not_false_eq_true, Nat.reduceEqDiff, r4'], by simp only [upd_other, ne_eq, not_false_eq_true, Nat.reduceEqDiff, r5]⟩

theorem reportLines_c (m : Int) (hg : Gl m w) (ht : Tab w) (hr : IsRy w v1 v2 v3 v4 r) (hd : IsDu w y1 y2 y3 d) (hc : IsRt w z1 z2 z3 z4 z5 z6 c) (hsum : d.qs.length + d.bs.length + d.ms.length < 2 ^ 62)
    (h : ∀ w', Mod (fun _ => False) w w' → K (.bool true) w') :
    Ok Proofs.Tryz.prog 3 #[.agg #[.int .i64 r.err, .int .u64 r.n, v1, v2, v3, v4], .agg #[.int .u64 d.clock, .int .u64 d.last, y1, y2, y3], .agg #[z1, z2, z3, z4, z5, z6, .int .i64 c.pairs, .int .u64 c.bytes, .int .i64 c.depth]] w K := by
  refine F3.enter (args := [.agg #[.int .i64 r.err, .int .u64 r.n, v1, v2, v3, v4], .agg #[.int .u64 d.clock, .int .u64 d.last, y1, y2, y3], .agg #[z1, z2, z3, z4, z5, z6, .int .i64 c.pairs, .int .u64 c.bytes, .int .i64 c.depth]]) (by simp) ?_
  rw [cRL_s]
  simp only [subC, c3, vc_seq, vc_ops, vcOps_nil, vcOps_cons, goL_apply, thenQ_normal, upd_other, updO_some, ev_tmp, ev_const, initE_at, insVc, Value.cells, ne_eq, not_false_eq_true, Nat.reduceEqDiff, Nat.reduceAdd, Option.getD_some, List.map_nil, List.getElem?_cons_zero, List.getElem?_cons_succ, size_alloc, size_alloc, Nat.add_assoc, Nat.reduceAdd, Nat.reduceEqDiff]
  refine callK_gen ?_
  intro w1 hw1
  have hm1 : Mod (fun _ => False) w w1 := by rw [hw1]; exact (((Mod.refl _ _).alloc _).alloc _).alloc _
  have xr1 : w1.heap[w.heap.size]? = some (.cells #[.int .i64 r.err, .int .u64 r.n, v1, v2, v3, v4] 27 (0, 0)) := by rw [hw1]; simp only [Nat.reduceAdd, reduceCtorEq, if_true, if_false, size_alloc, get_alloc, size_alloc, Nat.add_assoc, Nat.reduceAdd, Nat.left_eq_add, Nat.one_ne_zero]
  have xd1 : w1.heap[w.heap.size + 1]? = some (.cells #[.int .u64 d.clock, .int .u64 d.last, y1, y2, y3] 31 (0, 0)) := by rw [hw1]; simp only [Nat.reduceEqDiff, Nat.reduceAdd, if_true, if_false, size_alloc, get_alloc, size_alloc, Nat.add_assoc, Nat.reduceAdd, Nat.add_left_cancel_iff, Nat.add_eq_left, Nat.reduceEqDiff, Nat.one_ne_zero]
  have xc1 : w1.heap[w.heap.size + 2]? = some (.cells #[z1, z2, z3, z4, z5, z6, .int .i64 c.pairs, .int .u64 c.bytes, .int .i64 c.depth] 34 (0, 0)) := by rw [hw1]; simp only [Nat.reduceEqDiff, Nat.reduceAdd, reduceCtorEq, if_true, if_false, size_alloc, get_alloc, size_alloc, Nat.add_assoc, Nat.reduceAdd, Nat.add_left_cancel_iff, Nat.add_eq_left, Nat.reduceEqDiff]
  clear hw1
  refine awake29_c m w1 _ (hg.mod hm1 id) ?_
  intro w2 hm2
  have hm02 := hm1.trans hm2
  have xr2 := hm2.keep xr1 id
  have xd2 := hm2.keep xd1 id
  have xc2 := hm2.keep xc1 id
  simp only [vc_skip, vc_seq, vc_cond, vc_ops, vcOps_nil, vcOps_cons, goL_apply, thenQ_normal, condP_false, upd_same, upd_other, updO_some, ev_tmp, insVc, loadNK, loadNO_cells, notK, ne_eq, not_false_eq_true, Nat.reduceEqDiff, Nat.reduceAdd, Nat.reduceLeDiff, Bool.not_true, List.map_cons, List.map_nil, List.size_toArray, List.length_cons, List.length_nil, true_and, Nat.zero_add, List.extract_toArray, List.extract_eq_take_drop, List.drop_zero, List.take_zero, List.take_succ_cons, Nat.sub_zero, xr2]
  refine light_c r v1 v2 v3 v4 w2 _ (hr.keep hm02) ?_
  intro w3 b1 hm3 hb1
  have hm03 := hm02.trans hm3
  have xr3 := hm3.keep xr2 id
  have xd3 := hm3.keep xd2 id
  have xc3 := hm3.keep xc2 id
  cases b1 with
  | false =>
    simp only [vc_seq, vc_cond, vc_ret, vc_ops, vcOps_nil, vcOps_cons, vcOps_gate, gateK_false, gate_false, goL_apply, thenQ_normal, thenQ_ret, condP_true, upd_same, upd_other, updO_some, ev_tmp, ev_const, endQ_ret, endK, resK, packed, insVc, pickK, notK, ne_eq, not_false_eq_true, Nat.reduceEqDiff, Bool.not_true, Bool.not_false, List.nil_append, if_true]
    exact h w3 hm03
  | true =>
    simp only [vcOps_cons, vcOps_gate, gateK_true, gate_false, goL_apply, upd_same, upd_other, updO_some, ev_tmp, insVc, loadNK, loadNO_cells, notK, ne_eq, not_false_eq_true, Nat.reduceEqDiff, Nat.reduceAdd, Nat.reduceLeDiff, Bool.not_true, Bool.not_false, List.map_cons, List.map_nil, List.size_toArray, List.length_cons, List.length_nil, true_and, Nat.zero_add, List.extract_toArray, List.extract_eq_take_drop, List.drop_zero, List.take_zero, List.take_succ_cons, Nat.sub_zero, xd3]
    refine light27_c d y1 y2 y3 w3 _ (hd.keep hm03) hsum ?_
    intro w4 b2 hm4 hb2
    have hm04 := hm03.trans hm4
    have xr4 := hm4.keep xr3 id
    have xd4 := hm4.keep xd3 id
    have xc4 := hm4.keep xc3 id
    cases b2 with
    | false =>
      simp only [vc_seq, vc_cond, vc_ret, vc_ops, vcOps_nil, vcOps_cons, vcOps_gate, gateK_true, gateK_false, gate_false, goL_apply, thenQ_normal, thenQ_ret, condP_true, upd_same, upd_other, updO_some, ev_tmp, ev_const, endQ_ret, endK, resK, packed, insVc, pickK, notK, ne_eq, not_false_eq_true, Nat.reduceEqDiff, Bool.not_true, Bool.not_false, List.nil_append, if_true, if_false, Bool.false_eq_true]
      exact h w4 hm04
    | true =>
      simp only [vcOps_cons, vcOps_gate, gateK_true, gate_false, goL_apply, upd_same, upd_other, updO_some, ev_tmp, ev_const, insVc, pickK, loadNK, loadNO_cells, notK, ne_eq, not_false_eq_true, Nat.reduceEqDiff, Nat.reduceAdd, Nat.reduceLeDiff, Bool.not_true, Bool.not_false, List.map_cons, List.map_nil, List.size_toArray, List.length_cons, List.length_nil, true_and, if_false, Bool.false_eq_true, Nat.zero_add, List.extract_toArray, List.extract_eq_take_drop, List.drop_zero, List.take_zero, List.take_succ_cons, Nat.sub_zero, xc4]
      refine few_c c z1 z2 z3 z4 z5 z6 w4 _ (hc.keep hm04) ?_
      intro w5 b3 hm5 hb3
      have hm05 := hm04.trans hm5
      cases b3 with
      | false =>
        simp only [vc_seq, vc_cond, vc_ret, vc_ops, vcOps_nil, vcOps_cons, vcOps_gate, gateK_true, gate_false, goL_apply, thenQ_normal, thenQ_ret, condP_true, upd_same, upd_other, updO_some, ev_tmp, ev_const, endQ_ret, endK, resK, packed, insVc, pickK, notK, ne_eq, not_false_eq_true, Nat.reduceEqDiff, Bool.not_false, List.nil_append, if_false, Bool.false_eq_true]
        exact h w5 hm05
      | true =>
        simp only [vc_skip, vc_cond, vcOps_nil, vcOps_cons, vcOps_gate, gateK_true, gate_false, goL_apply, thenQ_normal, condP_false, upd_same, upd_other, updO_some, ev_tmp, ev_const, insVc, pickK, notK, ne_eq, not_false_eq_true, Nat.reduceEqDiff, Bool.not_true, Bool.not_false, if_false, Bool.false_eq_true]
        exact rl3_c ht hr hd hc (hb1 rfl) (hb2 rfl) (hb3 rfl) h _ w5 ⟨hm05, hm5.keep xr4 id, hm5.keep xd4 id, hm5.keep xc4 id, by simp only [upd_same, upd_other, ne_eq, not_false_eq_true, Nat.reduceEqDiff], by simp only [upd_same, upd_other, ne_eq, not_false_eq_true, Nat.reduceEqDiff], by simp only [upd_same, upd_other, ne_eq, not_false_eq_true, Nat.reduceEqDiff]⟩
end
end Go.Oct
