import Derived.Test.YtnpfllldeoiadaaGreatDoorVyE
set_option linter.unusedSimpArgs false
set_option linter.unusedVariables false
set_option linter.unusedSectionVars false
set_option linter.unnecessarySimpa false
namespace Go.Oct
open Go Go.Vc Go.VrA Go.VrB Go.VrD
set_option maxRecDepth 100000

/-! ### the lines of queues and bindings -/

def quW (q : Qu) : List (List UInt8) := [[113, 117, 101, 117, 101], quoteL q.name.data.toList, [109, 111, 115, 116], Lib.decDigits q.most, [116, 116, 108], Lib.decDigits q.ttl, [116, 114, 105, 101, 115], Lib.decDigits q.tries, [100, 101, 97, 100], quoteL q.dead.data.toList]
def quL (q : Qu) : List UInt8 := Lib.join (quW q) [32]
def Qu.small (q : Qu) : Prop := q.name.size ≤ 1000 ∧ q.dead.size ≤ 1000 ∧ q.most < 2 ^ 32 ∧ q.ttl < 2 ^ 64 ∧ q.tries < 2 ^ 32
theorem quL_len (q : Qu) (h : q.small) : (quL q).length ≤ 45000 := by
  obtain ⟨h1, h2, h3, h4, h5⟩ := h
  have hq := quoteL_len q.name.data.toList
  have hqs : q.name.data.toList.length = q.name.size := rfl
  have hq' := quoteL_len q.dead.data.toList
  have hqs' : q.dead.data.toList.length = q.dead.size := rfl
  have := join_len 4002 (quW q) (fun x hx => by
    simp only [quW, List.mem_cons, List.not_mem_nil, or_false] at hx
    have d1 := dec_len q.most (by omega)
    have d2 := dec_len q.tries (by omega)
    have d4 := dec_len q.ttl h4
    rcases hx with rfl | rfl | rfl | rfl | rfl | rfl | rfl | rfl | rfl | rfl <;> first | omega | (simp only [List.length_cons, List.length_nil]; omega))
  have e : (quW q).length = 10 := rfl
  rw [e] at this
  exact Nat.le_trans this (by decide)

theorem qu_c (q : Qu) (hq : q.small) (w : World) (K : Value → World → Prop) (ht : Tab w) (h : ∀ w', Mod (fun _ => False) w w' → K (.string ⟨(quL q).toArray⟩) w') : Ok Proofs.Tryz.prog 9 #[q.val] w K := by
  have hlen := quL_len q hq
  obtain ⟨h1, h2, h3, h4, h5⟩ := hq
  refine F9.enter (args := [q.val]) (by simp) ?_
  unfold c9 r9
  have hm0 : Mod (fun _ => False) w (w.alloc (.cells q.cells.toArray 41)) := (Mod.refl _ _).alloc _
  have hx := get_alloc_new w (.cells q.cells.toArray 41)
  simp only [vc_seq, vc_ops, vcOps_nil, vcOps_cons, goL_apply, thenQ_normal, updO_some, ev_tmp, ev_const, initE_at, insVc, Value.cells, Option.getD_some, List.getElem?_cons_zero, Qu.val, Qu.cells]
  refine draw_e (by kernel_rfl) (by kernel_rfl) (by kernel_rfl) (by kernel_rfl) ?_
  simp only [Qu.cells] at hx
  simp only [vc_ret, thenQ_normal, upd_same, upd_other, updO_some, ev_tmp, ev_const, endQ_ret, endK, resK, packed, insVc, load1K, loadO_cells, loadV_some, faddrK, fillL, buildSK, Value.cells, ne_eq, not_false_eq_true, Nat.reduceEqDiff, Nat.reduceAdd, Nat.reduceLeDiff, List.map_cons, List.map_nil, List.getElem?_cons_zero, List.getElem?_cons_succ, List.getElem?_toArray, List.size_toArray, List.length_cons, List.length_nil, List.zipIdx_cons, List.zipIdx_nil, List.foldl_cons, List.foldl_nil, List.setIfInBounds_toArray, List.set_cons_zero, List.nil_append, List.toList_toArray, true_and, and_true, and_self, if_true, if_false, Bool.false_eq_true, Nat.zero_add, Nat.add_zero, pureI, kindI, loadI, vcE_nil, vcE_cons, stepE_pure, stepE_load, stepE_step, hx]
  refine quote_c q.name (by omega) _ _ ?_
  intro u1 hm1
  have hmd : Mod (fun _ => False) (w.alloc (.cells q.cells.toArray 41)) u1 := (Mod.refl _ (S := fun _ => False)).drew.trans hm1
  refine ⟨hmd, ?_⟩
  simp only [Nat.reduceAdd, Nat.reduceLeDiff, List.size_toArray, List.length_cons, List.length_nil, List.zipIdx_cons, List.zipIdx_nil, List.foldl_cons, List.foldl_nil, List.setIfInBounds_toArray, List.set_cons_zero, List.set_cons_succ, and_true, if_true, Nat.zero_add, Nat.add_zero]
  refine num32_c q.most h3 u1 _ (ht.mod (hm0.trans hmd)) ?_
  intro u2 hm2
  have hmd2 := hmd.trans hm2
  refine ⟨hmd2, ?_⟩
  simp only [Nat.reduceAdd, Nat.reduceLeDiff, List.size_toArray, List.length_cons, List.length_nil, List.zipIdx_cons, List.zipIdx_nil, List.foldl_cons, List.foldl_nil, List.setIfInBounds_toArray, List.set_cons_zero, List.set_cons_succ, and_true, if_true, Nat.zero_add, Nat.add_zero]
  refine num64_c q.ttl h4 u2 _ (ht.mod (hm0.trans hmd2)) ?_
  intro u3 hm3
  have hmd3 := hmd2.trans hm3
  refine ⟨hmd3, ?_⟩
  simp only [Nat.reduceAdd, Nat.reduceLeDiff, List.size_toArray, List.length_cons, List.length_nil, List.zipIdx_cons, List.zipIdx_nil, List.foldl_cons, List.foldl_nil, List.setIfInBounds_toArray, List.set_cons_zero, List.set_cons_succ, and_true, if_true, Nat.zero_add, Nat.add_zero]
  refine num32_c q.tries h5 u3 _ (ht.mod (hm0.trans hmd3)) ?_
  intro u4 hm4
  have hmd4 := hmd3.trans hm4
  refine ⟨hmd4, ?_⟩
  simp only [Nat.reduceAdd, Nat.reduceLeDiff, List.size_toArray, List.length_cons, List.length_nil, List.zipIdx_cons, List.zipIdx_nil, List.foldl_cons, List.foldl_nil, List.setIfInBounds_toArray, List.set_cons_zero, List.set_cons_succ, and_true, if_true, Nat.zero_add, Nat.add_zero]
  refine quote_c q.dead (by omega) u4 _ ?_
  intro u5 hm5
  have hmd5 := hmd4.trans hm5
  refine ⟨hmd5, ?_⟩
  simp only [List.size_toArray, List.length_cons, List.length_nil, List.zipIdx_cons, List.zipIdx_nil, List.foldl_cons, List.foldl_nil, List.setIfInBounds_toArray, List.set_cons_zero, List.set_cons_succ, if_true, Nat.zero_add, Nat.add_zero]
  have hmd6 := hmd5.alloc (.cells (sC (quW q)).toArray 9)
  refine ⟨hmd6, ?_⟩
  refine rowL_c u5.heap.size (quW q) 10 _ _ _ _ _ (get_alloc_new _ _) rfl rfl (by show 10 ≤ 100; decide) (by show (quL q).length ≤ _; omega) ?_
  intro u7 hm7
  have hmd7 := hmd6.trans hm7
  exact ⟨hmd7, h u7 (hm0.trans hmd7)⟩

theorem rqu_c (q : Qu) (hq : q.small) (w : World) (K : Value → World → Prop) (h : ∀ w', Mod (fun _ => False) w w' → K (.string ⟨(quL q).toArray⟩) w') : Ok Proofs.Tryz.prog 10 #[q.val] w K := by
  obtain ⟨h1, h2, h3, h4, h5⟩ := hq
  have d1 := dec_len q.most (by omega)
  have d2 := dec_len q.tries (by omega)
  have d4 := dec_len q.ttl h4
  have hq := quoteL_len q.name.data.toList
  have hqs : q.name.data.toList.length = q.name.size := rfl
  have hq' := quoteL_len q.dead.data.toList
  have hqs' : q.dead.data.toList.length = q.dead.size := rfl
  refine F10.enter (args := [q.val]) (by simp) ?_
  unfold c10 r10
  have hm0 : Mod (fun _ => False) w (w.alloc (.cells q.cells.toArray 41)) := (Mod.refl _ _).alloc _
  have hx := get_alloc_new w (.cells q.cells.toArray 41)
  simp only [vc_seq, vc_ops, vcOps_nil, vcOps_cons, goL_apply, thenQ_normal, updO_some, ev_tmp, ev_const, initE_at, insVc, Value.cells, Option.getD_some, List.getElem?_cons_zero, Qu.val, Qu.cells]
  refine draw_e (by kernel_rfl) (by kernel_rfl) (by kernel_rfl) (by kernel_rfl) ?_
  simp only [Qu.cells] at hx
  simp only [vc_ret, thenQ_normal, upd_same, upd_other, updO_some, ev_tmp, ev_const, endQ_ret, endK, resK, packed, insVc, load1K, loadO_cells, loadV_some, convK, faddrK, ne_eq, not_false_eq_true, Nat.reduceEqDiff, List.map_cons, List.map_nil, List.getElem?_cons_zero, List.getElem?_cons_succ, List.getElem?_toArray, List.nil_append, if_true, if_false, Bool.false_eq_true, Nat.zero_add, Nat.add_zero, pureI, kindI, loadI, vcE_nil, vcE_cons, stepE_pure, stepE_load, stepE_step, hx]
  refine rquote_c q.name (by omega) _ _ ?_
  intro u1 hm1
  have hmd : Mod (fun _ => False) (w.alloc (.cells q.cells.toArray 41)) u1 := (Mod.refl _ (S := fun _ => False)).drew.trans hm1
  refine ⟨hmd, ?_⟩
  simp only [Nat.reduceAdd, Nat.reduceLeDiff, List.length_cons, List.length_nil, List.nil_append, List.cons_append, Nat.zero_add, sopK_add, wrap_u64 q.most (by omega)]
  refine ⟨by omega, by omega, ?_⟩
  refine rdec_c q.most (by omega) u1 _ ?_
  intro u2 hm2
  have hmd2 := hmd.trans hm2
  refine ⟨hmd2, ?_⟩
  simp only [Nat.reduceAdd, Nat.reduceLeDiff, List.length_cons, List.length_nil, List.cons_append, Nat.zero_add, sopK_add, List.length_append]
  refine ⟨by omega, by omega, ?_⟩
  refine rdec_c q.ttl h4 u2 _ ?_
  intro u3 hm3
  have hmd3 := hmd2.trans hm3
  refine ⟨hmd3, ?_⟩
  simp only [Nat.reduceAdd, Nat.reduceLeDiff, List.length_cons, List.length_nil, List.cons_append, Nat.zero_add, sopK_add, wrap_u64 q.tries (by omega), List.length_append]
  refine ⟨by omega, by omega, ?_⟩
  refine rdec_c q.tries (by omega) u3 _ ?_
  intro u4 hm4
  have hmd4 := hmd3.trans hm4
  refine ⟨hmd4, ?_⟩
  simp only [Nat.reduceAdd, Nat.reduceLeDiff, List.length_cons, List.length_nil, List.cons_append, Nat.zero_add, sopK_add, List.length_append]
  refine ⟨by omega, by omega, ?_⟩
  refine rquote_c q.dead (by omega) u4 _ ?_
  intro u5 hm5
  have hmd5 := hmd4.trans hm5
  refine ⟨hmd5, ?_⟩
  simp only [Nat.reduceAdd, List.length_cons, List.length_nil, List.cons_append, Nat.zero_add, sopK_add, List.length_append]
  refine ⟨by omega, ?_⟩
  have := h u5 (hm0.trans hmd5)
  simp only [quL, quW, Lib.join_cons, joinTail_cons, joinTail_nil] at this
  simpa using this

def kindL (k : Int) : List UInt8 := if k = 1 then [100, 105, 114, 101, 99, 116] else if k = 2 then [102, 97, 110, 111, 117, 116] else if k = 3 then [116, 111, 112, 105, 99] else [107, 105, 110, 100] ++ Lib.itoa k
def bdW (b : Bd) : List (List UInt8) := [[98, 105, 110, 100], quoteL b.ex.data.toList, kindL b.kind, quoteL b.key.data.toList, [116, 111], quoteL b.queue.data.toList]
def bdL (b : Bd) : List UInt8 := Lib.join (bdW b) [32]
def Bd.small (b : Bd) : Prop := i64ok b.kind ∧ b.ex.size ≤ 1000 ∧ b.key.size ≤ 1000 ∧ b.queue.size ≤ 1000
theorem kindL_len (k : Int) (h : i64ok k) : (kindL k).length ≤ 25 := by
  have := Lib.itoa_length_le k h.1 h.2
  unfold kindL
  split
  · decide
  split
  · decide
  split
  · decide
  · rw [List.length_append]; simp only [List.length_cons, List.length_nil]; omega
theorem bdL_len (b : Bd) (h : b.small) : (bdL b).length ≤ 45000 := by
  obtain ⟨h0, h1, h2, h3⟩ := h
  have hq := quoteL_len b.ex.data.toList
  have hqs : b.ex.data.toList.length = b.ex.size := rfl
  have hq' := quoteL_len b.key.data.toList
  have hqs' : b.key.data.toList.length = b.key.size := rfl
  have hq'' := quoteL_len b.queue.data.toList
  have hqs'' : b.queue.data.toList.length = b.queue.size := rfl
  have := join_len 4002 (bdW b) (fun x hx => by
    simp only [bdW, List.mem_cons, List.not_mem_nil, or_false] at hx
    have d1 := kindL_len b.kind h0
    rcases hx with rfl | rfl | rfl | rfl | rfl | rfl <;> first | omega | (simp only [List.length_cons, List.length_nil]; omega))
  have e : (bdW b).length = 6 := rfl
  rw [e] at this
  exact Nat.le_trans this (by decide)

noncomputable def cBdT : CC := subC c36 [1, 1, 1]
theorem cBd_s : c36 = .seq (subC c36 [0]) (.seq (subC c36 [1, 0]) (.seq (subC c36 [1, 1, 0]) cBdT)) := rfl
theorem bd_c (b : Bd) (hq : b.small) (w : World) (K : Value → World → Prop) (ht : Tab w) (h : ∀ w', Mod (fun _ => False) w w' → K (.string ⟨(bdL b).toArray⟩) w') : Ok Proofs.Tryz.prog 36 #[.agg b.cells.toArray] w K := by
  have hlen := bdL_len b hq
  obtain ⟨h0, h1, h2, h3⟩ := hq
  have hil := Lib.itoa_length_le b.kind h0.1 h0.2
  refine F36.enter (args := [.agg b.cells.toArray]) (by simp) ?_
  have tail : ∀ (ρ : Env) (u : World), Mod (fun _ => False) w u → u.heap[w.heap.size]? = some (.cells b.cells.toArray 61 (0, 0)) → ρ 1 = ptr w.heap.size → ρ 3 = .string ⟨(kindL b.kind).toArray⟩ →
      vc Proofs.Tryz.prog none 28 cBdT (endQ Proofs.Tryz.prog r36 K) ρ [] u := by
    intro ρ u hmu hx r1 r3
    simp only [cBdT, subC, c36, vc_seq]
    refine draw_e (by kernel_rfl) (by kernel_rfl) (by kernel_rfl) (by kernel_rfl) ?_
    simp only [vc_ret, thenQ_normal, upd_same, upd_other, updO_some, ev_tmp, ev_const, endQ_ret, endK, resK, packed, insVc, load1K, loadO_cells, loadV_some, faddrK, fillL, buildSK, Value.cells, ne_eq, not_false_eq_true, Nat.reduceEqDiff, Nat.reduceAdd, Nat.reduceLeDiff, List.map_cons, List.map_nil, List.getElem?_cons_zero, List.getElem?_cons_succ, List.getElem?_toArray, List.size_toArray, List.length_cons, List.length_nil, List.zipIdx_cons, List.zipIdx_nil, List.foldl_cons, List.foldl_nil, List.setIfInBounds_toArray, List.set_cons_zero, List.nil_append, List.toList_toArray, true_and, and_true, and_self, if_true, if_false, Bool.false_eq_true, Nat.zero_add, Nat.add_zero, pureI, kindI, loadI, vcE_nil, vcE_cons, stepE_pure, stepE_load, stepE_step, r1, r3, hx, Bd.cells]
    refine quote_c b.ex (by omega) u.drew _ ?_
    intro u1 hm1
    have hmd : Mod (fun _ => False) u u1 := (Mod.refl u (S := fun _ => False)).drew.trans hm1
    refine ⟨hmd, ?_⟩
    simp only [Nat.reduceAdd, Nat.reduceLeDiff, List.size_toArray, List.length_cons, List.length_nil, List.zipIdx_cons, List.zipIdx_nil, List.foldl_cons, List.foldl_nil, List.setIfInBounds_toArray, List.set_cons_zero, List.set_cons_succ, and_true, if_true, Nat.zero_add, Nat.add_zero]
    refine quote_c b.key (by omega) u1 _ ?_
    intro u2 hm2
    have hmd2 := hmd.trans hm2
    refine ⟨hmd2, ?_⟩
    simp only [Nat.reduceAdd, Nat.reduceLeDiff, List.size_toArray, List.length_cons, List.length_nil, List.zipIdx_cons, List.zipIdx_nil, List.foldl_cons, List.foldl_nil, List.setIfInBounds_toArray, List.set_cons_zero, List.set_cons_succ, and_true, if_true, Nat.zero_add, Nat.add_zero]
    refine quote_c b.queue (by omega) u2 _ ?_
    intro u3 hm3
    have hmd3 := hmd2.trans hm3
    refine ⟨hmd3, ?_⟩
    simp only [List.size_toArray, List.length_cons, List.length_nil, List.zipIdx_cons, List.zipIdx_nil, List.foldl_cons, List.foldl_nil, List.setIfInBounds_toArray, List.set_cons_zero, List.set_cons_succ, if_true, Nat.zero_add, Nat.add_zero]
    have hmd5 := hmd3.alloc (.cells (sC (bdW b)).toArray 9)
    refine ⟨hmd5, ?_⟩
    refine rowL_c u3.heap.size (bdW b) 6 _ _ _ _ _ (get_alloc_new _ _) rfl rfl (by show 6 ≤ 100; decide) (by show (bdL b).length ≤ _; omega) ?_
    intro u6 hm6
    have hmd6 := hmd5.trans hm6
    exact ⟨hmd6, h u6 (hmu.trans hmd6)⟩
  have hm1 : Mod (fun _ => False) w (w.alloc (.cells b.cells.toArray 61)) := (Mod.refl _ _).alloc _
  rw [cBd_s]
  simp only [subC, c36, vc_seq, vc_ops, vcOps_nil, vcOps_cons, goL_apply, thenQ_normal, upd_same, upd_other, updO_some, ev_tmp, ev_const, initE_at, insVc, load1K, loadO_cells, loadV_some, faddrK, Value.cells, ne_eq, not_false_eq_true, Nat.reduceEqDiff, Option.getD_some, List.map_cons, List.map_nil, List.getElem?_cons_zero, List.getElem?_cons_succ, List.getElem?_toArray, Nat.zero_add, get_alloc_new, Bd.cells]
  refine itoa_c b.kind h0 _ _ (ht.mod hm1) ?_
  intro u hm2
  have hx := hm2.keep (get_alloc_new w (.cells b.cells.toArray 61)) id
  simp only [Bd.cells] at hx
  have hmu := hm1.trans hm2
  by_cases k1 : b.kind = 1
  · have e1 : (b.kind == 1) = true := by rw [k1]; rfl
    simp only [vc_seq, vc_cond, vc_block, vc_ops, vcOps_nil, vcOps_cons, goL_apply, thenQ_normal, blockQ_normal, condP_true, upd_same, upd_other, updO_some, ev_tmp, ev_const, insVc, load1K, loadO_cells, loadV_some, iopK, iopV, faddrK, ne_eq, not_false_eq_true, Nat.reduceEqDiff, Nat.reduceAdd, reduceCtorEq, List.getElem?_cons_zero, List.getElem?_cons_succ, List.getElem?_toArray, List.length_cons, List.length_nil, List.nil_append, List.cons_append, true_and, or_false, Nat.zero_add, sopK_add, hx, e1]
    exact ⟨by omega, tail _ _ hmu hx (by simp only [upd_same, upd_other, ne_eq, not_false_eq_true, Nat.reduceEqDiff]) (by simp only [upd_same, List.nil_append, List.cons_append, if_true, if_false, Int.reduceEq, kindL, k1])⟩
  have e1 : (b.kind == 1) = false := by rw [beq_eq_false_iff_ne]; exact k1
  by_cases k2 : b.kind = 2
  · have e2 : (b.kind == 2) = true := by rw [k2]; rfl
    simp only [vc_seq, vc_cond, vc_block, vc_ops, vcOps_nil, vcOps_cons, goL_apply, thenQ_normal, blockQ_normal, condP_true, condP_false, upd_same, upd_other, updO_some, ev_tmp, ev_const, insVc, load1K, loadO_cells, loadV_some, iopK, iopV, faddrK, ne_eq, not_false_eq_true, Nat.reduceEqDiff, Nat.reduceAdd, reduceCtorEq, List.getElem?_cons_zero, List.getElem?_cons_succ, List.getElem?_toArray, List.length_cons, List.length_nil, List.nil_append, List.cons_append, true_and, or_false, Nat.zero_add, sopK_add, hx, e1, e2]
    exact ⟨by omega, tail _ _ hmu hx (by simp only [upd_same, upd_other, ne_eq, not_false_eq_true, Nat.reduceEqDiff]) (by simp only [upd_same, List.nil_append, List.cons_append, if_true, if_false, Int.reduceEq, kindL, k2])⟩
  have e2 : (b.kind == 2) = false := by rw [beq_eq_false_iff_ne]; exact k2
  by_cases k3 : b.kind = 3
  · have e3 : (b.kind == 3) = true := by rw [k3]; rfl
    simp only [vc_seq, vc_cond, vc_block, vc_ops, vcOps_nil, vcOps_cons, goL_apply, thenQ_normal, blockQ_normal, condP_true, condP_false, upd_same, upd_other, updO_some, ev_tmp, ev_const, insVc, load1K, loadO_cells, loadV_some, iopK, iopV, faddrK, ne_eq, not_false_eq_true, Nat.reduceEqDiff, Nat.reduceAdd, reduceCtorEq, List.getElem?_cons_zero, List.getElem?_cons_succ, List.getElem?_toArray, List.length_cons, List.length_nil, List.nil_append, List.cons_append, true_and, or_false, Nat.zero_add, sopK_add, hx, e1, e2, e3]
    exact ⟨by omega, tail _ _ hmu hx (by simp only [upd_same, upd_other, ne_eq, not_false_eq_true, Nat.reduceEqDiff]) (by simp only [upd_same, List.nil_append, List.cons_append, if_true, if_false, Int.reduceEq, kindL, k3])⟩
  have e3 : (b.kind == 3) = false := by rw [beq_eq_false_iff_ne]; exact k3
  simp only [vc_skip, vc_seq, vc_cond, vc_block, vc_ops, vcOps_nil, vcOps_cons, goL_apply, thenQ_normal, blockQ_normal, condP_false, upd_same, upd_other, updO_some, ev_tmp, ev_const, insVc, load1K, loadO_cells, loadV_some, iopK, iopV, faddrK, ne_eq, not_false_eq_true, Nat.reduceEqDiff, Nat.reduceAdd, reduceCtorEq, List.getElem?_cons_zero, List.getElem?_cons_succ, List.getElem?_toArray, List.length_cons, List.length_nil, List.nil_append, List.cons_append, true_and, or_false, Nat.zero_add, sopK_add, hx, e1, e2, e3]
  exact ⟨by omega, tail _ _ hmu hx (by simp only [upd_same, upd_other, ne_eq, not_false_eq_true, Nat.reduceEqDiff]) (by simp only [upd_same, upd_other, ne_eq, not_false_eq_true, Nat.reduceEqDiff, List.nil_append, List.cons_append, if_false, kindL, k1, k2, k3])⟩
end Go.Oct

namespace Go.Oct
open Go Go.Vc Go.VrA Go.VrB Go.VrD
set_option maxRecDepth 100000

/-! ### the lines of a reply -/

def partL (wd : List UInt8) (l : List Nat) : List UInt8 := if l = [] then [] else 32 :: (wd ++ (32 :: listL l))
def wIds : List UInt8 := [105, 100, 115]
def wLost : List UInt8 := [108, 111, 115, 116]
def wDead : List UInt8 := [100, 101, 97, 100]
def preL (r : Ry) : Nat → List UInt8
  | 0 => [111, 107, 32] ++ Lib.decDigits r.n
  | 1 => [111, 107, 32] ++ Lib.decDigits r.n ++ partL wIds r.ids
  | 2 => [111, 107, 32] ++ Lib.decDigits r.n ++ partL wIds r.ids ++ partL wLost r.lost
  | _ => [111, 107, 32] ++ Lib.decDigits r.n ++ partL wIds r.ids ++ partL wLost r.lost ++ partL wDead r.dead
def mLinesL (l : List Ms) : List UInt8 := l.flatMap fun m => [10, 32, 32] ++ msgL m
def replyL (r : Ry) : List UInt8 := if r.err ≠ 0 then [101, 114, 114, 111, 114, 32] ++ Lib.itoa r.err else preL r 3 ++ mLinesL r.list
structure Ry.small (r : Ry) : Prop where
  l1 : r.ids.length ≤ 100
  l2 : r.lost.length ≤ 100
  l3 : r.dead.length ≤ 100
  l4 : r.list.length ≤ 40
  g : ∀ m ∈ r.list, m.small

def wdR (i : Nat) : List UInt8 := if i = 0 then wIds else if i = 1 then wLost else wDead
def llR (r : Ry) (i : Nat) : List Nat := if i = 0 then r.ids else if i = 1 then r.lost else r.dead
def vvR (v1 v2 v3 : Value) (i : Nat) : Value := if i = 0 then v1 else if i = 1 then v2 else v3
theorem preL_succ (r : Ry) (i : Nat) (hi : i < 3) : preL r (i + 1) = preL r i ++ partL (wdR i) (llR r i) := by
  match i, hi with
  | 0, _ => rfl
  | 1, _ => rfl
  | 2, _ => rfl
theorem partL_len (wd : List UInt8) (l : List Nat) (hw : wd.length ≤ 4) (hl : l.length ≤ 100) (h : ∀ n ∈ l, n < 2 ^ 64) : (partL wd l).length ≤ 2200 := by
  have := listL_len l h
  unfold partL
  split
  · decide
  · simp only [List.length_cons, List.length_append]; omega
theorem wdR_len (i : Nat) : (wdR i).length ≤ 4 := by
  unfold wdR
  split
  · decide
  split <;> decide
theorem llR_ok {w : World} {v1 v2 v3 v4 : Value} {r : Ry} (h : IsRy w v1 v2 v3 v4 r) (hs : r.small) (i : Nat) : IsT u64C 1 w (vvR v1 v2 v3 i) (llR r i) ∧ (llR r i).length ≤ 100 ∧ ∀ n ∈ llR r i, n < 2 ^ 64 := by
  unfold vvR llR
  split
  · exact ⟨h.ids, hs.l1, h.g1⟩
  split
  · exact ⟨h.lost, hs.l2, h.g2⟩
  · exact ⟨h.dead, hs.l3, h.g3⟩
theorem preL_len {w : World} {v1 v2 v3 v4 : Value} {r : Ry} (h : IsRy w v1 v2 v3 v4 r) (hs : r.small) (i : Nat) (hi : i ≤ 3) : (preL r i).length ≤ 100 + 2200 * i := by
  have hd := dec_len r.n h.n
  have step : ∀ i, i < 3 → (preL r i).length ≤ 100 + 2200 * i → (preL r (i + 1)).length ≤ 100 + 2200 * (i + 1) := by
    intro i hi hl
    obtain ⟨_, h1, h2⟩ := llR_ok h hs i
    have := partL_len (wdR i) (llR r i) (wdR_len i) h1 h2
    rw [preL_succ r i hi, List.length_append]; omega
  have h0 : (preL r 0).length ≤ 100 + 2200 * 0 := by
    show ([111, 107, 32] ++ Lib.decDigits r.n).length ≤ _
    rw [List.length_append]; simp only [List.length_cons, List.length_nil]; omega
  have h1 := step 0 (by decide) h0
  have h2 := step 1 (by decide) h1
  have h3 := step 2 (by decide) h2
  match i, hi with
  | 0, _ => exact h0
  | 1, _ => exact h1
  | 2, _ => exact h2
  | 3, _ => exact h3
theorem mLinesL_len (l : List Ms) (h : ∀ m ∈ l, m.small) : (mLinesL l).length ≤ 40003 * l.length := by
  induction l with
  | nil => simp [mLinesL]
  | cons m l ih =>
    have h1 := msgL_len m (h m List.mem_cons_self)
    have h2 := ih (fun x hx => h x (List.mem_cons_of_mem _ hx))
    simp only [mLinesL, List.flatMap_cons, List.length_append, List.length_cons, List.length_nil] at h2 ⊢
    omega

noncomputable def cReply : CC := c13
noncomputable def cReply4 : CC := subC c13 [1, 1, 1, 1]
noncomputable def cReply3 : CC := subC c13 [1, 1, 1]
theorem cReply_s : c13 = .seq (subC c13 [0]) (.seq (subC c13 [1, 0]) (.seq (subC c13 [1, 1, 0]) cReply3)) := rfl
theorem cReply3_s : cReply3 = .seq (subC c13 [1, 1, 1, 0]) cReply4 := rfl

theorem reply4_c (r : Ry) (v1 v2 v3 v4 : Value) (hs : r.small) (w u0 : World) (K : Value → World → Prop) (ht : Tab w) (hr : IsRy w v1 v2 v3 v4 r) (ρ : Env) (hmu0 : Mod (fun _ => False) w u0) (hx : u0.heap[w.heap.size]? = some (.cells #[.int .i64 r.err, .int .u64 r.n, v1, v2, v3, v4] 27 (0, 0)))
    (r1 : ρ 1 = ptr w.heap.size) (r3 : ρ 3 = .string ⟨(preL r 3).toArray⟩)
    (h : ∀ w', Mod (fun _ => False) w w' → K (.string ⟨(preL r 3 ++ mLinesL r.list).toArray⟩) w') : vc Proofs.Tryz.prog none 63 cReply4 (endQ Proofs.Tryz.prog r13 K) ρ [] u0 := by
  have hpl := preL_len hr hs 3 (Nat.le_refl _)
  have hv4 := hr.list
  have hl4 := hs.l4
  have hg := hs.g
  obtain ⟨⟨a, cp, rfl⟩, _⟩ := id hv4
  simp only [cReply4, subC, c13, vc_seq, vc_block, vc_ops, vcOps_nil, vcOps_cons, goL_apply, thenQ_normal, upd_same, updO_some, ev_tmp, ev_const, insVc, load1K, loadO_cells, loadV_some, faddrK, lenLK, List.getElem?_cons_zero, List.getElem?_cons_succ, List.getElem?_toArray, Nat.zero_add, r1, hx]
  refine vc_loop (fun mm ρ ds u => ∃ i, i ≤ r.list.length ∧ mm = r.list.length - i ∧ ds = [] ∧ ρ 3 = .string ⟨(preL r 3 ++ mLinesL (r.list.take i)).toArray⟩ ∧ ρ 50 = .slice a r.list.length cp ∧ ρ 51 = .int .i64 r.list.length ∧ ρ 52 = .int .i64 i ∧
    Mod (fun _ => False) w u) r.list.length ?_ ?_
  · refine ⟨0, Nat.zero_le _, rfl, rfl, ?_, ?_, ?_, ?_, hmu0⟩
    · simp only [upd_other, ne_eq, not_false_eq_true, Nat.reduceEqDiff, List.take_zero, r3]; simp [mLinesL]
    · simp only [upd_same, upd_other, ne_eq, not_false_eq_true, Nat.reduceEqDiff]
    · simp only [upd_same, upd_other, ne_eq, not_false_eq_true, Nat.reduceEqDiff]
    · simp only [upd_same]; rfl
  · rintro mm ρ ds u ⟨i, hi, rfl, rfl, h3, h50, h51, h52, hmu⟩
    have hll := mLinesL_len (r.list.take i) (fun m hm => hg m (List.mem_of_mem_take hm))
    rw [List.length_take, Nat.min_eq_left hi] at hll
    by_cases hc : i < r.list.length
    · have d1 : (i : Int) < ((r.list.length : Nat) : Int) := by omega
      have hi0 : (0 : Int) ≤ (i : Int) ∧ (i : Int) < ((r.list.length : Nat) : Int) := by omega
      obtain ⟨m, hm⟩ : ∃ m, r.list[i]? = some m := ⟨r.list[i], List.getElem?_eq_getElem hc⟩
      have hms := hg m (List.mem_of_getElem? hm)
      have hml := msgL_len m hms
      obtain ⟨b, o, cur, t, f, rfl, hb, hsz, hex⟩ := (hv4.keep hmu).at hm
      rw [Nat.add_assoc] at hsz hex
      have hw1 : IntKind.i64.wrap ((i : Int) + 1) = ((i + 1 : Nat) : Int) := by rw [wrap_i64 _ (by omega)]; omega
      have htk : mLinesL (r.list.take (i + 1)) = mLinesL (r.list.take i) ++ ([10, 32, 32] ++ msgL m) := by
        rw [List.take_add_one, hm]; simp [mLinesL]
      obtain ⟨u1, hu1⟩ : ∃ u1, u1 = Vc.set (u.alloc (.cells #[.string ⟨#[]⟩, .int .u64 0, .int .u32 0, .int .u64 0, .string ⟨#[]⟩] 44)) u.heap.size (.cells #[.string m.queue, .int .u64 m.id, .int .u32 m.tries, .int .u64 m.expiry, .string m.body] 44) := ⟨_, rfl⟩
      have hmu1 : Mod (fun _ => False) u u1 := by rw [hu1]; exact ((Mod.refl _ _).alloc _).set (.inl (Nat.le_refl _))
      simp only [vc_skip, vc_seq, vc_cond, vc_block, vc_ops, vcOps_nil, vcOps_cons, goL_apply, thenQ_normal, condP_true, upd_same, upd_other, updO_some, updO_none, ev_tmp, insVc, loadV_some, loadNK, loadNO_cells, storeNK, storeNO_cells, setMany, iopK, iopV, iaddrK, isPlain, Value.cells, ne_eq, not_false_eq_true, Nat.reduceEqDiff, Nat.reduceAdd, Nat.reduceLeDiff, reduceCtorEq, List.map_cons, List.map_nil, List.size_toArray, List.length_cons, List.length_nil, List.setIfInBounds_toArray, List.set_cons_zero, List.set_cons_succ, true_and, or_false, and_self, if_true, Nat.zero_add, decide_true, Bool.and_true, Int.toNat_natCast, List.extract_toArray, List.extract_eq_take_drop, List.drop_zero, List.take_zero, List.take_succ_cons, Nat.sub_zero, List.all_toArray', List.all_cons, List.all_nil, size_alloc, get_set_same, Nat.lt_add_one, get_alloc, size_alloc, Nat.add_assoc, Nat.reduceAdd, Nat.reduceEqDiff, h3, h50, h51, h52, d1, hi0, hb, hsz, hex, Ms.cells]
      rw [← hu1]
      refine msg_c m hms u1 _ (ht.mod (hmu.trans hmu1)) ?_
      intro u2 hm2
      simp only [vc_ops, vcOps_nil, vcOps_cons, goL_apply, thenQ_normal, blockQ_normal, upd_same, upd_other, updO_some, ev_tmp, ev_const, insVc, loadV_some, iopK, iopV, ne_eq, not_false_eq_true, Nat.reduceEqDiff, Nat.reduceAdd, reduceCtorEq, List.length_cons, List.length_nil, List.nil_append, List.cons_append, true_and, or_false, Nat.zero_add, sopK_add, h50, h51, h52, hw1, List.length_append]
      refine ⟨by omega, by omega, r.list.length - (i + 1), by omega, i + 1, by omega, rfl, ?_, rfl, (hmu.trans hmu1).trans hm2⟩
      rw [htk]; simp
    · have d1 : ¬ (i : Int) < ((r.list.length : Nat) : Int) := by omega
      have hie : i = r.list.length := by omega
      rw [hie, List.take_length] at h3
      simp only [vc_seq, vc_cond, vc_exit, vc_ret, vc_ops, vcOps_nil, vcOps_cons, goL_apply, thenQ_normal, thenQ_exit, blockQ_same, condP_false, upd_same, upd_other, updO_some, ev_tmp, endQ_ret, endK, resK, packed, insVc, loadV_some, iopK, iopV, ne_eq, not_false_eq_true, Nat.reduceEqDiff, reduceCtorEq, List.nil_append, true_and, or_false, decide_false, h3, h51, h52, d1]
      exact h u hmu

theorem ryreply_c (r : Ry) (v1 v2 v3 v4 : Value) (hs : r.small) (w : World) (K : Value → World → Prop) (ht : Tab w) (hr : IsRy w v1 v2 v3 v4 r)
    (h : ∀ w', Mod (fun _ => False) w w' → K (.string ⟨(replyL r).toArray⟩) w') : Ok Proofs.Tryz.prog 13 #[.agg #[.int .i64 r.err, .int .u64 r.n, v1, v2, v3, v4]] w K := by
  obtain ⟨⟨a1, p1, rfl⟩, _⟩ := id hr.ids
  obtain ⟨⟨a2, p2, rfl⟩, _⟩ := id hr.lost
  obtain ⟨⟨a3, p3, rfl⟩, _⟩ := id hr.dead
  obtain ⟨v1, hv1⟩ : ∃ v1, v1 = Value.slice a1 r.ids.length p1 := ⟨_, rfl⟩
  obtain ⟨v2, hv2⟩ : ∃ v2, v2 = Value.slice a2 r.lost.length p2 := ⟨_, rfl⟩
  obtain ⟨v3, hv3⟩ : ∃ v3, v3 = Value.slice a3 r.dead.length p3 := ⟨_, rfl⟩
  rw [← hv1, ← hv2, ← hv3] at hr ⊢
  refine F13.enter (args := [.agg #[.int .i64 r.err, .int .u64 r.n, v1, v2, v3, v4]]) (by simp) ?_
  rw [cReply_s]
  have hm0 : Mod (fun _ => False) w (w.alloc (.cells #[.int .i64 r.err, .int .u64 r.n, v1, v2, v3, v4] 27)) := (Mod.refl _ _).alloc _
  have hx0 := get_alloc_new w (.cells #[.int .i64 r.err, .int .u64 r.n, v1, v2, v3, v4] 27)
  have hil := Lib.itoa_length_le r.err hr.e.1 hr.e.2
  have hd := dec_len r.n hr.n
  by_cases he : r.err ≠ 0
  · have e1 : (r.err != 0) = true := by simp [he]
    have hrl : replyL r = Lib.join [[101, 114, 114, 111, 114], Lib.itoa r.err] [32] := by
      unfold replyL
      rw [if_pos he, Lib.join_cons, joinTail_cons, joinTail_nil]; simp
    simp only [subC, c13, vc_seq, vc_cond, vc_ops, vcOps_nil, vcOps_cons, goL_apply, thenQ_normal, condP_true, upd_same, upd_other, updO_some, ev_tmp, ev_const, initE_at, insVc, load1K, loadO_cells, loadV_some, iopK, iopV, faddrK, Value.cells, ne_eq, not_false_eq_true, Nat.reduceEqDiff, reduceCtorEq, Option.getD_some, List.map_cons, List.map_nil, List.getElem?_cons_zero, List.getElem?_toArray, true_and, or_false, Nat.add_zero, get_alloc_new, e1]
    refine itoa_c r.err hr.e _ _ (ht.mod hm0) ?_
    intro u1 hm1
    simp only [vcOps_cons, goL_apply, upd_same, updO_some, ev_tmp, ev_const, insVc, fillL, buildSK, Value.cells, Nat.reduceAdd, Nat.reduceLeDiff, List.map_cons, List.map_nil, List.size_toArray, List.length_cons, List.length_nil, List.zipIdx_cons, List.zipIdx_nil, List.foldl_cons, List.foldl_nil, List.setIfInBounds_toArray, List.set_cons_zero, List.set_cons_succ, List.toList_toArray, and_self, if_true, Nat.zero_add, Nat.add_zero]
    refine rowL_c u1.heap.size [[101, 114, 114, 111, 114], Lib.itoa r.err] 2 _ _ _ _ _ (get_alloc_new _ _) rfl rfl (by show 2 ≤ 100; decide) ?_ ?_
    · rw [← hrl]; unfold replyL; rw [if_pos he, List.length_append]; simp only [List.length_cons, List.length_nil]; omega
    · rw [← hrl]
      intro u3 hm3
      simp only [vc_ret, vcOps_nil, vcOps_cons, goL_apply, thenQ_normal, thenQ_ret, upd_same, updO_some, ev_tmp, endQ_ret, endK, resK, packed, insVc, List.nil_append]
      exact h u3 (((hm0.trans hm1).alloc _).trans hm3)
  · have he0 : r.err = 0 := by omega
    have e1 : (r.err != 0) = false := by rw [he0]; rfl
    have hrl : replyL r = preL r 3 ++ mLinesL r.list := by unfold replyL; rw [if_neg he]
    rw [hrl] at h
    have hp0 : preL r 0 = Lib.join [[111, 107], Lib.decDigits r.n] [32] := by
      rw [Lib.join_cons, joinTail_cons, joinTail_nil]; simp [preL]
    simp only [subC, c13, vc_skip, vc_seq, vc_cond, vc_ops, vcOps_nil, vcOps_cons, goL_apply, thenQ_normal, condP_false, upd_same, upd_other, updO_some, ev_tmp, ev_const, initE_at, insVc, load1K, loadO_cells, loadV_some, iopK, iopV, faddrK, Value.cells, ne_eq, not_false_eq_true, Nat.reduceEqDiff, reduceCtorEq, Option.getD_some, List.map_cons, List.map_nil, List.getElem?_cons_zero, List.getElem?_cons_succ, List.getElem?_toArray, true_and, or_false, Nat.zero_add, Nat.add_zero, get_alloc_new, e1]
    refine num64_c r.n hr.n _ _ (ht.mod hm0) ?_
    intro u1 hm1
    simp only [vcOps_cons, goL_apply, upd_same, updO_some, ev_tmp, ev_const, insVc, fillL, buildSK, Value.cells, Nat.reduceAdd, Nat.reduceLeDiff, List.map_cons, List.map_nil, List.size_toArray, List.length_cons, List.length_nil, List.zipIdx_cons, List.zipIdx_nil, List.foldl_cons, List.foldl_nil, List.setIfInBounds_toArray, List.set_cons_zero, List.set_cons_succ, List.toList_toArray, and_self, if_true, Nat.zero_add, Nat.add_zero]
    refine rowL_c u1.heap.size [[111, 107], Lib.decDigits r.n] 2 _ _ _ _ _ (get_alloc_new _ _) rfl rfl (by show 2 ≤ 100; decide) ?_ ?_
    · rw [← hp0]; show ([111, 107, 32] ++ Lib.decDigits r.n).length ≤ _; rw [List.length_append]; simp only [List.length_cons, List.length_nil]; omega
    rw [← hp0]
    intro u3 hm3
    have hm03 := ((hm0.trans hm1).alloc (.cells (sC [[111, 107], Lib.decDigits r.n]).toArray 9)).trans hm3
    have hx3 := ((hm1.alloc (.cells (sC [[111, 107], Lib.decDigits r.n]).toArray 9)).trans hm3).keep hx0 id
    rw [cReply3_s]
    simp only [subC, c13, vc_seq, vc_block, vc_ops, vcOps_nil, vcOps_cons, goL_apply, thenQ_normal, upd_same, upd_other, updO_some, ev_tmp, ev_const, insVc, load1K, loadO_cells, loadV_some, faddrK, lenLK, buildK, fillL, buildSK, Value.cells, ne_eq, not_false_eq_true, Nat.reduceEqDiff, Nat.reduceAdd, Nat.reduceLeDiff, List.getElem?_cons_zero, List.getElem?_cons_succ, List.getElem?_toArray, List.size_toArray, List.length_cons, List.length_nil, List.zipIdx_cons, List.zipIdx_nil, List.foldl_cons, List.foldl_nil, List.setIfInBounds_toArray, List.set_cons_zero, List.toList_toArray, and_true, and_self, if_true, Nat.zero_add, hx3]
    rw [hv1, hv2, hv3]
    simp only [Nat.reduceAdd, Nat.reduceLeDiff, List.size_toArray, List.length_cons, List.length_nil, List.zipIdx_cons, List.zipIdx_nil, List.foldl_cons, List.foldl_nil, List.setIfInBounds_toArray, List.set_cons_zero, List.set_cons_succ, and_self, if_true, Nat.zero_add, Nat.add_zero]
    rw [← hv1, ← hv2, ← hv3]
    obtain ⟨w4, hw4⟩ : ∃ w4, w4 = u3.alloc (.cells #[.string ⟨#[105, 100, 115]⟩, v1, .string ⟨#[108, 111, 115, 116]⟩, v2, .string ⟨#[100, 101, 97, 100]⟩, v3] 67) := ⟨_, rfl⟩
    have hm4 : Mod (fun _ => False) u3 w4 := by rw [hw4]; exact (Mod.refl _ _).alloc _
    have hbk4 : w4.heap[u3.heap.size]? = some (.cells #[.string ⟨#[105, 100, 115]⟩, v1, .string ⟨#[108, 111, 115, 116]⟩, v2, .string ⟨#[100, 101, 97, 100]⟩, v3] 67 (0, 0)) := by rw [hw4]; exact get_alloc_new _ _
    rw [← hw4]
    clear hw4
    have hm04 := hm03.trans hm4
    have hx4 := hm4.keep hx3 id
    have hvv : ∀ i, i < 3 → (#[.string ⟨#[105, 100, 115]⟩, v1, .string ⟨#[108, 111, 115, 116]⟩, v2, .string ⟨#[100, 101, 97, 100]⟩, v3] : Array Value).extract (i * 2) (i * 2 + 2) = #[.string ⟨(wdR i).toArray⟩, vvR v1 v2 v3 i] := by
      intro i hi
      match i, hi with
      | 0, _ => rfl
      | 1, _ => rfl
      | 2, _ => rfl
    refine vc_loop (fun mm ρ ds u => ∃ i, i ≤ 3 ∧ mm = 3 - i ∧ ds = [] ∧ ρ 1 = ptr w.heap.size ∧ ρ 3 = .string ⟨(preL r i).toArray⟩ ∧ ρ 30 = .slice (some ⟨u3.heap.size, 0, none⟩) 3 3 ∧ ρ 31 = .int .i64 ((3 : Nat) : Int) ∧ ρ 32 = .int .i64 i ∧
      Mod (fun _ => False) w4 u) 3 ?_ ?_
    · refine ⟨0, by omega, rfl, rfl, ?_, ?_, ?_, ?_, ?_, Mod.refl _ _⟩
      · simp only [upd_same, upd_other, ne_eq, not_false_eq_true, Nat.reduceEqDiff]
      · simp only [upd_same, upd_other, ne_eq, not_false_eq_true, Nat.reduceEqDiff]
      · simp only [upd_same, upd_other, ne_eq, not_false_eq_true, Nat.reduceEqDiff]
      · simp only [upd_same, upd_other, ne_eq, not_false_eq_true, Nat.reduceEqDiff]
      · simp only [upd_same]; rfl
    · rintro mm ρ ds u ⟨i, hi, rfl, rfl, g1, g3, g30, g31, g32, hmu⟩
      have hbu := hmu.keep hbk4 id
      have hxu := hmu.keep hx4 id
      have hmwu := hm04.trans hmu
      by_cases hc : i < 3
      · have d1 : (i : Int) < ((3 : Nat) : Int) := by omega
        have hi0 : (0 : Int) ≤ (i : Int) ∧ (i : Int) < ((3 : Nat) : Int) := by omega
        have hex := hvv i hc
        have hsz : i * 2 + 2 ≤ 6 := by omega
        have hw1 : IntKind.i64.wrap ((i : Int) + 1) = ((i + 1 : Nat) : Int) := by rw [wrap_i64 _ (by omega)]; omega
        obtain ⟨hT, hL, hN⟩ := llR_ok hr hs i
        obtain ⟨⟨ai, ci, hvi⟩, _⟩ := id hT
        have hps := preL_succ r i hc
        have hpl := preL_len hr hs i hi
        have hpl' := preL_len hr hs (i + 1) (by omega)
        obtain ⟨u1, hu1⟩ : ∃ u1, u1 = Vc.set (u.alloc (.cells #[.string ⟨#[]⟩, .slice none 0 0] 67)) u.heap.size (.cells #[.string ⟨(wdR i).toArray⟩, .slice ai (llR r i).length ci] 67) := ⟨_, rfl⟩
        rw [hvi] at hex
        have hmu1 : Mod (fun _ => False) u u1 := by rw [hu1]; exact ((Mod.refl _ _).alloc _).set (.inl (Nat.le_refl _))
        have x1 : u1.heap[u.heap.size]? = some (.cells #[.string ⟨(wdR i).toArray⟩, .slice ai (llR r i).length ci] 67 (0, 0)) := by rw [hu1]; exact get_set_same _ _ _ (by rw [size_alloc]; omega)
        simp only [vc_skip, vc_seq, vc_cond, vc_block, vc_ops, vcOps_nil, vcOps_cons, goL_apply, thenQ_normal, condP_true, upd_same, upd_other, updO_some, updO_none, ev_tmp, ev_const, insVc, load1K, loadO_cells, loadV_some, loadNK, loadNO_cells, storeNK, storeNO_cells, setMany, iopK, iopV, faddrK, iaddrK, lenLK, isPlain, Value.cells, ne_eq, not_false_eq_true, Nat.reduceEqDiff, Nat.reduceAdd, Nat.reduceLeDiff, reduceCtorEq, List.getElem?_cons_zero, List.getElem?_cons_succ, List.getElem?_toArray, List.size_toArray, List.length_cons, List.length_nil, List.setIfInBounds_toArray, List.set_cons_zero, List.set_cons_succ, true_and, or_false, and_self, if_true, Nat.zero_add, decide_true, Bool.and_true, Int.toNat_natCast, List.all_toArray', List.all_cons, List.all_nil, size_alloc, get_set_same, Nat.lt_add_one, get_alloc, size_alloc, Nat.reduceAdd, Nat.reduceEqDiff, g30, g31, g32, d1, hi0, hbu, hsz, hex]
        rw [← hu1]
        by_cases hl0 : llR r i = []
        · have d2 : ¬ (((llR r i).length : Nat) : Int) > 0 := by rw [hl0]; decide
          have hp1 : preL r (i + 1) = preL r i := by rw [hps, partL, if_pos hl0, List.append_nil]
          simp only [vc_skip, vc_ops, vcOps_nil, vcOps_cons, goL_apply, thenQ_normal, blockQ_normal, condP_false, upd_same, upd_other, updO_some, ev_tmp, ev_const, insVc, loadV_some, iopK, iopV, ne_eq, not_false_eq_true, Nat.reduceEqDiff, reduceCtorEq, true_and, or_false, decide_false, d2, g1, g3, g30, g31, g32, hw1]
          exact ⟨3 - (i + 1), by omega, i + 1, by omega, rfl, by rw [hp1], rfl, hmu.trans hmu1⟩
        · have d2 : (((llR r i).length : Nat) : Int) > 0 := by
            have := List.length_pos_iff.2 hl0
            omega
          simp only [condP_true, decide_true, d2]
          refine draw_e (by kernel_rfl) (by kernel_rfl) (by kernel_rfl) (by kernel_rfl) ?_
          simp only [vc_ops, vcOps_nil, vcOps_cons, goL_apply, thenQ_normal, blockQ_normal, upd_same, upd_other, updO_some, ev_tmp, ev_const, insVc, load1K, loadO_cells, loadV_some, iopK, iopV, faddrK, fillL, buildSK, Value.cells, ne_eq, not_false_eq_true, Nat.reduceEqDiff, Nat.reduceAdd, Nat.reduceLeDiff, reduceCtorEq, List.map_cons, List.map_nil, List.getElem?_cons_zero, List.getElem?_cons_succ, List.getElem?_toArray, List.size_toArray, List.length_cons, List.length_nil, List.zipIdx_cons, List.zipIdx_nil, List.foldl_cons, List.foldl_nil, List.setIfInBounds_toArray, List.set_cons_zero, List.set_cons_succ, List.toList_toArray, true_and, and_true, or_false, if_true, if_false, Bool.false_eq_true, Nat.zero_add, Nat.add_zero, pureI, kindI, loadI, vcE_nil, vcE_cons, stepE_pure, stepE_load, stepE_step, g3, x1]
          have hmd0 : Mod (fun _ => False) u1 u1.drew := (Mod.refl _ _).drew
          have hTi : IsT u64C 1 u1.drew (.slice ai (llR r i).length ci) (llR r i) := by
            rw [← hvi]; exact ((hT.keep hmwu).keep hmu1).keep hmd0
          refine list64_c (llR r i) _ u1.drew _ (ht.mod ((hmwu.trans hmu1).trans hmd0)) hTi (by omega) hN ?_
          intro u2 hm2
          have hmd2 := hmd0.trans hm2
          refine ⟨hmd2, ?_⟩
          have hp1 : preL r (i + 1) = Lib.join [preL r i, wdR i, listL (llR r i)] [32] := by
            rw [hps, partL, if_neg hl0, Lib.join_cons, joinTail_cons, joinTail_cons, joinTail_nil]; simp
          simp only [List.size_toArray, List.length_cons, List.length_nil, List.zipIdx_cons, List.zipIdx_nil, List.foldl_cons, List.foldl_nil, List.setIfInBounds_toArray, List.set_cons_zero, List.set_cons_succ, if_true, Nat.zero_add, Nat.add_zero]
          have hmd3 := hmd2.alloc (.cells (sC [preL r i, wdR i, listL (llR r i)]).toArray 9)
          refine ⟨hmd3, ?_⟩
          refine rowL_c u2.heap.size [preL r i, wdR i, listL (llR r i)] 3 _ _ _ _ _ (get_alloc_new _ _) rfl rfl (by show 3 ≤ 100; decide) (by rw [← hp1]; omega) ?_
          rw [← hp1]
          intro u4 hm5
          have hmd5 := hmd3.trans hm5
          refine ⟨hmd5, ?_⟩
          simp only [true_and, g1, g30, g31, g32, hw1]
          exact ⟨3 - (i + 1), by omega, i + 1, by omega, rfl, rfl, rfl, (hmu.trans hmu1).trans hmd5⟩
      · have d1 : ¬ (i : Int) < ((3 : Nat) : Int) := by omega
        have hie : i = 3 := by omega
        rw [hie] at g3
        simp only [vc_seq, vc_cond, vc_exit, vc_ops, vcOps_nil, vcOps_cons, goL_apply, thenQ_normal, thenQ_exit, blockQ_same, condP_false, upd_same, updO_some, ev_tmp, insVc, loadV_some, iopK, iopV, reduceCtorEq, true_and, or_false, decide_false, g31, g32, d1]
        exact reply4_c r v1 v2 v3 v4 hs w u K ht hr _ hmwu hxu (by simp only [upd_other, ne_eq, not_false_eq_true, Nat.reduceEqDiff, g1]) (by simp only [upd_other, ne_eq, not_false_eq_true, Nat.reduceEqDiff, g3]) h
end Go.Oct
