import Derived.Test.YtnpfllldeoiadaaGreatDoorVyG
set_option linter.unusedSimpArgs false
set_option linter.unusedVariables false
set_option linter.unusedSectionVars false
set_option linter.unnecessarySimpa false
namespace Go.Oct
open Go Go.Vc Go.VrA Go.VrB Go.VrD
set_option maxRecDepth 100000

/-! ### the reference's reply -/

noncomputable def cRr6 : CC := subC c14 [1, 1, 1, 1, 1, 1]
noncomputable def cRr5 : CC := subC c14 [1, 1, 1, 1, 1]
noncomputable def cRr4 : CC := subC c14 [1, 1, 1, 1]
noncomputable def cRr3 : CC := subC c14 [1, 1, 1]
theorem cRr_s : c14 = .seq (subC c14 [0]) (.seq (subC c14 [1, 0]) (.seq (subC c14 [1, 1, 0]) cRr3)) := rfl
theorem cRr3_s : cRr3 = .seq (subC c14 [1, 1, 1, 0]) cRr4 := rfl
theorem cRr4_s : cRr4 = .seq (subC c14 [1, 1, 1, 1, 0]) cRr5 := rfl
theorem cRr5_s : cRr5 = .seq (subC c14 [1, 1, 1, 1, 1, 0]) cRr6 := rfl

theorem rreply6_c (r : Ry) (v1 v2 v3 v4 : Value) (hs : r.small) (w u0 : World) (K : Value → World → Prop) (hr : IsRy w v1 v2 v3 v4 r) (ρ : Env) (hmu0 : Mod (fun _ => False) w u0) (hx : u0.heap[w.heap.size]? = some (.cells #[.int .i64 r.err, .int .u64 r.n, v1, v2, v3, v4] 49 (0, 0)))
    (r1 : ρ 1 = ptr w.heap.size) (r3 : ρ 3 = .string ⟨(preL r 3).toArray⟩)
    (h : ∀ w', Mod (fun _ => False) w w' → K (.string ⟨(preL r 3 ++ mLinesL r.list).toArray⟩) w') : vc Proofs.Tryz.prog none 61 cRr6 (endQ Proofs.Tryz.prog r14 K) ρ [] u0 := by
  have hpl := preL_len hr hs 3 (Nat.le_refl _)
  have hv4 := hr.list
  have hl4 := hs.l4
  have hg := hs.g
  obtain ⟨⟨a, cp, rfl⟩, _⟩ := id hv4
  simp only [cRr6, subC, c14, vc_seq, vc_block, vc_ops, vcOps_nil, vcOps_cons, goL_apply, thenQ_normal, upd_same, updO_some, ev_tmp, ev_const, insVc, load1K, loadO_cells, loadV_some, faddrK, lenLK, List.getElem?_cons_zero, List.getElem?_cons_succ, List.getElem?_toArray, Nat.zero_add, r1, hx]
  refine vc_loop (fun mm ρ ds u => ∃ i, i ≤ r.list.length ∧ mm = r.list.length - i ∧ ds = [] ∧ ρ 3 = .string ⟨(preL r 3 ++ mLinesL (r.list.take i)).toArray⟩ ∧ ρ 48 = .slice a r.list.length cp ∧ ρ 49 = .int .i64 r.list.length ∧ ρ 50 = .int .i64 i ∧
    Mod (fun _ => False) w u) r.list.length ?_ ?_
  · refine ⟨0, Nat.zero_le _, rfl, rfl, ?_, ?_, ?_, ?_, hmu0⟩
    · simp only [upd_other, ne_eq, not_false_eq_true, Nat.reduceEqDiff, List.take_zero, r3]; simp [mLinesL]
    · simp only [upd_same, upd_other, ne_eq, not_false_eq_true, Nat.reduceEqDiff]
    · simp only [upd_same, upd_other, ne_eq, not_false_eq_true, Nat.reduceEqDiff]
    · simp only [upd_same]; rfl
  · rintro mm ρ ds u ⟨i, hi, rfl, rfl, h3, h48, h49, h50, hmu⟩
    have hll := mLinesL_len (r.list.take i) (fun m hm => hg m (List.mem_of_mem_take hm))
    rw [List.length_take, Nat.min_eq_left hi] at hll
    by_cases hc : i < r.list.length
    · have d1 : (i : Int) < ((r.list.length : Nat) : Int) := by omega
      have hi0 : (0 : Int) ≤ (i : Int) ∧ (i : Int) < ((r.list.length : Nat) : Int) := by omega
      obtain ⟨m, hm⟩ : ∃ m, r.list[i]? = some m := ⟨r.list[i], List.getElem?_eq_getElem hc⟩
      have hms := hg m (List.mem_of_getElem? hm)
      have hml := msgL_len m hms
      obtain ⟨b, o, cur, t, f, rfl, hb, hsz, hex⟩ := (hv4.keep hmu).at hm
      rw [Nat.add_assoc] at hsz hex
      have hw1 : IntKind.i64.wrap ((i : Int) + 1) = ((i + 1 : Nat) : Int) := by rw [wrap_i64 _ (by omega)]; omega
      have htk : mLinesL (r.list.take (i + 1)) = mLinesL (r.list.take i) ++ ([10, 32, 32] ++ msgL m) := by
        rw [List.take_add_one, hm]; simp [mLinesL]
      obtain ⟨u1, hu1⟩ : ∃ u1, u1 = Vc.set (u.alloc (.cells #[.string ⟨#[]⟩, .int .u64 0, .int .u32 0, .int .u64 0, .string ⟨#[]⟩] 44)) u.heap.size (.cells #[.string m.queue, .int .u64 m.id, .int .u32 m.tries, .int .u64 m.expiry, .string m.body] 44) := ⟨_, rfl⟩
      have hmu1 : Mod (fun _ => False) u u1 := by rw [hu1]; exact ((Mod.refl _ _).alloc _).set (.inl (Nat.le_refl _))
      have x1 : u1.heap[u.heap.size]? = some (.cells #[.string m.queue, .int .u64 m.id, .int .u32 m.tries, .int .u64 m.expiry, .string m.body] 44 (0, 0)) := by rw [hu1]; exact get_set_same _ _ _ (by rw [size_alloc]; omega)
      simp only [vc_skip, vc_seq, vc_cond, vc_block, vc_ops, vcOps_nil, vcOps_cons, goL_apply, thenQ_normal, condP_true, upd_same, upd_other, updO_some, updO_none, ev_tmp, ev_const, insVc, loadV_some, loadNK, loadNO_cells, storeNK, storeNO_cells, setMany, iopK, iopV, iaddrK, isPlain, Value.cells, ne_eq, not_false_eq_true, Nat.reduceEqDiff, Nat.reduceAdd, Nat.reduceLeDiff, reduceCtorEq, List.map_cons, List.map_nil, List.size_toArray, List.length_cons, List.length_nil, List.setIfInBounds_toArray, List.set_cons_zero, List.set_cons_succ, true_and, or_false, and_self, if_true, Nat.zero_add, decide_true, Bool.and_true, Int.toNat_natCast, List.extract_toArray, List.extract_eq_take_drop, List.drop_zero, List.take_zero, List.take_succ_cons, Nat.sub_zero, List.all_toArray', List.all_cons, List.all_nil, size_alloc, get_set_same, Nat.lt_add_one, sopK_add, get_alloc, size_alloc, Nat.add_assoc, Nat.reduceAdd, Nat.reduceEqDiff, h3, h48, h49, h50, d1, hi0, hb, hsz, hex, Ms.cells, List.length_append]
      rw [← hu1]
      refine ⟨by omega, ?_⟩
      refine rmsg_c m hms u1 _ ?_
      intro u2 hm2
      simp only [vc_ops, vcOps_nil, vcOps_cons, goL_apply, thenQ_normal, blockQ_normal, upd_same, upd_other, updO_some, ev_tmp, ev_const, insVc, loadV_some, iopK, iopV, ne_eq, not_false_eq_true, Nat.reduceEqDiff, Nat.reduceAdd, reduceCtorEq, List.length_cons, List.length_nil, true_and, or_false, Nat.zero_add, sopK_add, h48, h49, h50, hw1, List.length_append]
      refine ⟨by omega, r.list.length - (i + 1), by omega, i + 1, by omega, rfl, ?_, rfl, (hmu.trans hmu1).trans hm2⟩
      rw [htk]; simp
    · have d1 : ¬ (i : Int) < ((r.list.length : Nat) : Int) := by omega
      have hie : i = r.list.length := by omega
      rw [hie, List.take_length] at h3
      simp only [vc_seq, vc_cond, vc_exit, vc_ret, vc_ops, vcOps_nil, vcOps_cons, goL_apply, thenQ_normal, thenQ_exit, blockQ_same, condP_false, upd_same, upd_other, updO_some, ev_tmp, endQ_ret, endK, resK, packed, insVc, loadV_some, iopK, iopV, ne_eq, not_false_eq_true, Nat.reduceEqDiff, reduceCtorEq, List.nil_append, true_and, or_false, decide_false, h3, h49, h50, d1]
      exact h u hmu

theorem part_if (wd : List UInt8) (l : List Nat) (h : l ≠ []) : partL wd l = 32 :: (wd ++ (32 :: listL l)) := by unfold partL; rw [if_neg h]

theorem rreply_c (r : Ry) (v1 v2 v3 v4 : Value) (hs : r.small) (w : World) (K : Value → World → Prop) (hr : IsRy w v1 v2 v3 v4 r)
    (h : ∀ w', Mod (fun _ => False) w w' → K (.string ⟨(replyL r).toArray⟩) w') : Ok Proofs.Tryz.prog 14 #[.agg #[.int .i64 r.err, .int .u64 r.n, v1, v2, v3, v4]] w K := by
  have hp2 := preL_len hr hs 2 (by decide)
  have hp1 := preL_len hr hs 1 (by decide)
  have hp3 := preL_len hr hs 3 (by decide)
  have hp00 := preL_len hr hs 0 (by decide)
  obtain ⟨⟨a1, p1, hv1⟩, _⟩ := id hr.ids
  obtain ⟨⟨a2, p2, hv2⟩, _⟩ := id hr.lost
  obtain ⟨⟨a3, p3, hv3⟩, _⟩ := id hr.dead
  refine F14.enter (args := [.agg #[.int .i64 r.err, .int .u64 r.n, v1, v2, v3, v4]]) (by simp) ?_
  rw [cRr_s]
  have hm0 : Mod (fun _ => False) w (w.alloc (.cells #[.int .i64 r.err, .int .u64 r.n, v1, v2, v3, v4] 49)) := (Mod.refl _ _).alloc _
  have hx0 := get_alloc_new w (.cells #[.int .i64 r.err, .int .u64 r.n, v1, v2, v3, v4] 49)
  have hil := Lib.itoa_length_le r.err hr.e.1 hr.e.2
  have hd := dec_len r.n hr.n
  by_cases he : r.err ≠ 0
  · have e1 : (r.err != 0) = true := by simp [he]
    have hrl : replyL r = [101, 114, 114, 111, 114, 32] ++ Lib.itoa r.err := by unfold replyL; rw [if_pos he]
    rw [hrl] at h
    simp only [subC, c14, vc_seq, vc_cond, vc_ops, vcOps_nil, vcOps_cons, goL_apply, thenQ_normal, condP_true, upd_same, upd_other, updO_some, ev_tmp, ev_const, initE_at, insVc, load1K, loadO_cells, loadV_some, iopK, iopV, faddrK, Value.cells, ne_eq, not_false_eq_true, Nat.reduceEqDiff, reduceCtorEq, Option.getD_some, List.map_cons, List.map_nil, List.getElem?_cons_zero, List.getElem?_toArray, true_and, or_false, Nat.add_zero, get_alloc_new, e1]
    refine rsigned_c r.err hr.e _ _ ?_
    intro u1 hm1
    simp only [vc_ret, vcOps_nil, vcOps_cons, goL_apply, thenQ_normal, thenQ_ret, upd_same, updO_some, ev_tmp, ev_const, endQ_ret, endK, resK, packed, insVc, Nat.reduceAdd, List.length_cons, List.length_nil, List.nil_append, List.cons_append, Nat.zero_add, sopK_add]
    exact ⟨by omega, h u1 (hm0.trans hm1)⟩
  · have he0 : r.err = 0 := by omega
    have e1 : (r.err != 0) = false := by rw [he0]; rfl
    have hrl : replyL r = preL r 3 ++ mLinesL r.list := by unfold replyL; rw [if_neg he]
    rw [hrl] at h
    have s3 : ∀ (ρ : Env) (u0 : World), Mod (fun _ => False) w u0 → u0.heap[w.heap.size]? = some (.cells #[.int .i64 r.err, .int .u64 r.n, v1, v2, v3, v4] 49 (0, 0)) → ρ 1 = ptr w.heap.size → ρ 3 = .string ⟨(preL r 2).toArray⟩ → vc Proofs.Tryz.prog none 61 cRr5 (endQ Proofs.Tryz.prog r14 K) ρ [] u0 := by
      intro ρ u0 hmu hx r1 r3
      rw [cRr5_s]
      by_cases hl : r.dead = []
      · have d : ¬ ((r.dead.length : Nat) : Int) > 0 := by rw [hl]; decide
        have hp : preL r 3 = preL r 2 := by rw [preL_succ r 2 (by decide)]; show _ ++ partL wDead r.dead = _; rw [partL, if_pos hl, List.append_nil]
        simp only [subC, c14, vc_skip, vc_seq, vc_cond, vc_ops, vcOps_nil, vcOps_cons, goL_apply, thenQ_normal, condP_false, upd_same, updO_some, ev_tmp, ev_const, insVc, load1K, loadO_cells, loadV_some, iopK, iopV, faddrK, lenLK, reduceCtorEq, List.getElem?_cons_zero, List.getElem?_cons_succ, List.getElem?_toArray, true_and, or_false, Nat.zero_add, decide_false, r1, hx, hv3, d]
        exact rreply6_c r v1 v2 v3 v4 hs w u0 K hr _ hmu hx (by simp only [upd_other, ne_eq, not_false_eq_true, Nat.reduceEqDiff, r1]) (by simp only [upd_other, ne_eq, not_false_eq_true, Nat.reduceEqDiff, r3, hp]) h
      · have d : ((r.dead.length : Nat) : Int) > 0 := by have := List.length_pos_iff.2 hl; omega
        have hp : preL r 3 = preL r 2 ++ (32 :: (wDead ++ (32 :: listL r.dead))) := by rw [preL_succ r 2 (by decide)]; show _ ++ partL wDead r.dead = _; rw [part_if _ _ hl]
        have hll := listL_len r.dead hr.g3
        have hl100 := hs.l3
        simp only [subC, c14, vc_seq, vc_cond, vc_ops, vcOps_nil, vcOps_cons, goL_apply, thenQ_normal, condP_true, upd_same, upd_other, updO_some, ev_tmp, ev_const, insVc, load1K, loadO_cells, loadV_some, iopK, iopV, faddrK, lenLK, ne_eq, not_false_eq_true, Nat.reduceEqDiff, Nat.reduceAdd, Nat.reduceLeDiff, reduceCtorEq, List.map_cons, List.map_nil, List.getElem?_cons_zero, List.getElem?_cons_succ, List.getElem?_toArray, List.length_cons, List.length_nil, true_and, or_false, Nat.zero_add, decide_true, sopK_add, r1, r3, hx, hv3, d]
        refine ⟨by omega, ?_⟩
        refine rlist_c r.dead _ u0 _ (by rw [← hv3]; exact hr.dead.keep hmu) (by omega) hr.g3 ?_
        intro u1 hm1
        simp only [vcOps_nil, vcOps_cons, goL_apply, thenQ_normal, upd_same, upd_other, updO_some, ev_tmp, insVc, ne_eq, not_false_eq_true, Nat.reduceEqDiff, Nat.reduceAdd, List.length_cons, List.length_nil, Nat.zero_add, sopK_add, List.length_append]
        refine ⟨by omega, ?_⟩
        exact rreply6_c r v1 v2 v3 v4 hs w u1 K hr _ (hmu.trans hm1) (by simpa only [hv3] using hm1.keep hx id) (by simp only [upd_other, ne_eq, not_false_eq_true, Nat.reduceEqDiff, r1]) (by simp only [upd_same, List.nil_append, List.cons_append, hp, wDead]; simp) h
    have s2 : ∀ (ρ : Env) (u0 : World), Mod (fun _ => False) w u0 → u0.heap[w.heap.size]? = some (.cells #[.int .i64 r.err, .int .u64 r.n, v1, v2, v3, v4] 49 (0, 0)) → ρ 1 = ptr w.heap.size → ρ 3 = .string ⟨(preL r 1).toArray⟩ → vc Proofs.Tryz.prog none 61 cRr4 (endQ Proofs.Tryz.prog r14 K) ρ [] u0 := by
      intro ρ u0 hmu hx r1 r3
      rw [cRr4_s]
      by_cases hl : r.lost = []
      · have d : ¬ ((r.lost.length : Nat) : Int) > 0 := by rw [hl]; decide
        have hp : preL r 2 = preL r 1 := by rw [preL_succ r 1 (by decide)]; show _ ++ partL wLost r.lost = _; rw [partL, if_pos hl, List.append_nil]
        simp only [subC, c14, vc_skip, vc_seq, vc_cond, vc_ops, vcOps_nil, vcOps_cons, goL_apply, thenQ_normal, condP_false, upd_same, updO_some, ev_tmp, ev_const, insVc, load1K, loadO_cells, loadV_some, iopK, iopV, faddrK, lenLK, reduceCtorEq, List.getElem?_cons_zero, List.getElem?_cons_succ, List.getElem?_toArray, true_and, or_false, Nat.zero_add, decide_false, r1, hx, hv2, d]
        exact s3 _ u0 hmu hx (by simp only [upd_other, ne_eq, not_false_eq_true, Nat.reduceEqDiff, r1]) (by simp only [upd_other, ne_eq, not_false_eq_true, Nat.reduceEqDiff, r3, hp])
      · have d : ((r.lost.length : Nat) : Int) > 0 := by have := List.length_pos_iff.2 hl; omega
        have hp : preL r 2 = preL r 1 ++ (32 :: (wLost ++ (32 :: listL r.lost))) := by rw [preL_succ r 1 (by decide)]; show _ ++ partL wLost r.lost = _; rw [part_if _ _ hl]
        have hll := listL_len r.lost hr.g2
        have hl100 := hs.l2
        simp only [subC, c14, vc_seq, vc_cond, vc_ops, vcOps_nil, vcOps_cons, goL_apply, thenQ_normal, condP_true, upd_same, upd_other, updO_some, ev_tmp, ev_const, insVc, load1K, loadO_cells, loadV_some, iopK, iopV, faddrK, lenLK, ne_eq, not_false_eq_true, Nat.reduceEqDiff, Nat.reduceAdd, Nat.reduceLeDiff, reduceCtorEq, List.map_cons, List.map_nil, List.getElem?_cons_zero, List.getElem?_cons_succ, List.getElem?_toArray, List.length_cons, List.length_nil, true_and, or_false, Nat.zero_add, decide_true, sopK_add, r1, r3, hx, hv2, d]
        refine ⟨by omega, ?_⟩
        refine rlist_c r.lost _ u0 _ (by rw [← hv2]; exact hr.lost.keep hmu) (by omega) hr.g2 ?_
        intro u1 hm1
        simp only [vcOps_nil, vcOps_cons, goL_apply, thenQ_normal, upd_same, upd_other, updO_some, ev_tmp, insVc, ne_eq, not_false_eq_true, Nat.reduceEqDiff, Nat.reduceAdd, List.length_cons, List.length_nil, Nat.zero_add, sopK_add, List.length_append]
        refine ⟨by omega, ?_⟩
        exact s3 _ u1 (hmu.trans hm1) (hm1.keep hx id) (by simp only [upd_other, ne_eq, not_false_eq_true, Nat.reduceEqDiff, r1]) (by simp only [upd_same, List.nil_append, List.cons_append, hp, wLost]; simp)
    have s1 : ∀ (ρ : Env) (u0 : World), Mod (fun _ => False) w u0 → u0.heap[w.heap.size]? = some (.cells #[.int .i64 r.err, .int .u64 r.n, v1, v2, v3, v4] 49 (0, 0)) → ρ 1 = ptr w.heap.size → ρ 3 = .string ⟨(preL r 0).toArray⟩ → vc Proofs.Tryz.prog none 61 cRr3 (endQ Proofs.Tryz.prog r14 K) ρ [] u0 := by
      intro ρ u0 hmu hx r1 r3
      rw [cRr3_s]
      by_cases hl : r.ids = []
      · have d : ¬ ((r.ids.length : Nat) : Int) > 0 := by rw [hl]; decide
        have hp : preL r 1 = preL r 0 := by rw [preL_succ r 0 (by decide)]; show _ ++ partL wIds r.ids = _; rw [partL, if_pos hl, List.append_nil]
        simp only [subC, c14, vc_skip, vc_seq, vc_cond, vc_ops, vcOps_nil, vcOps_cons, goL_apply, thenQ_normal, condP_false, upd_same, updO_some, ev_tmp, ev_const, insVc, load1K, loadO_cells, loadV_some, iopK, iopV, faddrK, lenLK, reduceCtorEq, List.getElem?_cons_zero, List.getElem?_cons_succ, List.getElem?_toArray, true_and, or_false, Nat.zero_add, decide_false, r1, hx, hv1, d]
        exact s2 _ u0 hmu hx (by simp only [upd_other, ne_eq, not_false_eq_true, Nat.reduceEqDiff, r1]) (by simp only [upd_other, ne_eq, not_false_eq_true, Nat.reduceEqDiff, r3, hp])
      · have d : ((r.ids.length : Nat) : Int) > 0 := by have := List.length_pos_iff.2 hl; omega
        have hp : preL r 1 = preL r 0 ++ (32 :: (wIds ++ (32 :: listL r.ids))) := by rw [preL_succ r 0 (by decide)]; show _ ++ partL wIds r.ids = _; rw [part_if _ _ hl]
        have hll := listL_len r.ids hr.g1
        have hl100 := hs.l1
        simp only [subC, c14, vc_seq, vc_cond, vc_ops, vcOps_nil, vcOps_cons, goL_apply, thenQ_normal, condP_true, upd_same, upd_other, updO_some, ev_tmp, ev_const, insVc, load1K, loadO_cells, loadV_some, iopK, iopV, faddrK, lenLK, ne_eq, not_false_eq_true, Nat.reduceEqDiff, Nat.reduceAdd, Nat.reduceLeDiff, reduceCtorEq, List.map_cons, List.map_nil, List.getElem?_cons_zero, List.getElem?_cons_succ, List.getElem?_toArray, List.length_cons, List.length_nil, true_and, or_false, Nat.zero_add, decide_true, sopK_add, r1, r3, hx, hv1, d]
        refine ⟨by omega, ?_⟩
        refine rlist_c r.ids _ u0 _ (by rw [← hv1]; exact hr.ids.keep hmu) (by omega) hr.g1 ?_
        intro u1 hm1
        simp only [vcOps_nil, vcOps_cons, goL_apply, thenQ_normal, upd_same, upd_other, updO_some, ev_tmp, insVc, ne_eq, not_false_eq_true, Nat.reduceEqDiff, Nat.reduceAdd, List.length_cons, List.length_nil, Nat.zero_add, sopK_add, List.length_append]
        refine ⟨by omega, ?_⟩
        exact s2 _ u1 (hmu.trans hm1) (hm1.keep hx id) (by simp only [upd_other, ne_eq, not_false_eq_true, Nat.reduceEqDiff, r1]) (by simp only [upd_same, List.nil_append, List.cons_append, hp, wIds]; simp)
    simp only [subC, c14, vc_skip, vc_seq, vc_cond, vc_ops, vcOps_nil, vcOps_cons, goL_apply, thenQ_normal, condP_false, upd_same, upd_other, updO_some, ev_tmp, ev_const, initE_at, insVc, load1K, loadO_cells, loadV_some, iopK, iopV, faddrK, Value.cells, ne_eq, not_false_eq_true, Nat.reduceEqDiff, reduceCtorEq, Option.getD_some, List.map_cons, List.map_nil, List.getElem?_cons_zero, List.getElem?_cons_succ, List.getElem?_toArray, true_and, or_false, Nat.zero_add, Nat.add_zero, get_alloc_new, e1]
    refine rdec_c r.n hr.n _ _ ?_
    intro u1 hm1
    simp only [vcOps_nil, vcOps_cons, goL_apply, thenQ_normal, upd_same, updO_some, ev_tmp, ev_const, insVc, Nat.reduceAdd, List.length_cons, List.length_nil, List.nil_append, List.cons_append, Nat.zero_add, sopK_add]
    exact ⟨by omega, s1 _ u1 (hm0.trans hm1) (hm1.keep hx0 id) (by simp only [upd_same, upd_other, ne_eq, not_false_eq_true, Nat.reduceEqDiff]) (by simp only [upd_same]; rfl)⟩
end Go.Oct

namespace Go.Oct
open Go Go.Vc Go.VrA Go.VrB Go.VrD
set_option maxRecDepth 100000

/-! ### lines of things -/

def rowsL {α : Type} (f : α → List UInt8) (l : List α) : List UInt8 := l.flatMap fun x => f x ++ [10]
theorem rowsL_len {α : Type} (f : α → List UInt8) (k : Nat) (l : List α) (h : ∀ x ∈ l, (f x).length ≤ k) : (rowsL f l).length ≤ (k + 1) * l.length := by
  induction l with
  | nil => simp [rowsL]
  | cons x l ih =>
    have h1 := h x List.mem_cons_self
    have h2 := ih (fun y hy => h y (List.mem_cons_of_mem _ hy))
    simp only [rowsL, List.flatMap_cons, List.length_append, List.length_cons, List.length_nil, Nat.mul_add] at h2 ⊢
    omega
theorem rowsL_snoc {α : Type} (f : α → List UInt8) (l : List α) (i : Nat) (x : α) (h : l[i]? = some x) : rowsL f (l.take (i + 1)) = rowsL f (l.take i) ++ (f x ++ [10]) := by
  rw [List.take_add_one, h]; simp [rowsL]

theorem linesQ_c (l : List Qu) (v : Value) (w : World) (K : Value → World → Prop) (ht : Tab w) (hv : IsT Qu.cells 5 w v l) (hl : l.length ≤ 100) (hg : ∀ x ∈ l, x.small)
    (h : ∀ w', Mod (fun _ => False) w w' → K (.string ⟨(rowsL quL l).toArray⟩) w') : Ok Proofs.Tryz.prog 34 #[v, .func (.func 9) #[] #[]] w K := by
  obtain ⟨⟨a, cp, rfl⟩, _⟩ := id hv
  refine F34.enter (args := [.slice a l.length cp, .func (.func 9) #[] #[]]) (by simp) ?_
  unfold c34 r34
  simp only [vc_seq, vc_block, vc_ops, vcOps_nil, vcOps_cons, goL_apply, thenQ_normal, upd_same, upd_other, updO_some, ev_tmp, ev_const, initE_at, insVc, lenLK, Value.cells, ne_eq, not_false_eq_true, reduceCtorEq, Option.getD_some, List.getElem?_cons_zero]
  have hB1 : IsB (w.alloc (.cells #[.pointer none, .slice none 0 0] 81)) w.heap.size w.heap.size [] := isB_fresh _ _ (get_alloc_new _ _)
  refine vc_loop (fun mm ρ ds u => ∃ i, i ≤ l.length ∧ mm = l.length - i ∧ ds = [] ∧ ρ 1 = .func (.func 9) #[] #[] ∧ ρ 5 = ptr w.heap.size ∧ ρ 8 = .slice a l.length cp ∧ ρ 9 = .int .i64 l.length ∧ ρ 10 = .int .i64 i ∧
    Mod (fun _ => False) w u ∧ IsB u w.heap.size w.heap.size (rowsL quL (l.take i))) l.length ?_ ?_
  · refine ⟨0, Nat.zero_le _, rfl, rfl, ?_, ?_, ?_, ?_, ?_, (Mod.refl _ _).alloc _, hB1⟩ <;> simp only [upd_same, upd_other, initE_at, ne_eq, not_false_eq_true, Nat.reduceEqDiff, Option.getD_some, List.getElem?_cons_zero, List.getElem?_cons_succ]
    rfl
  · rintro mm ρ ds u ⟨i, hi, rfl, rfl, h1, h5, h8, h9, h10, hmu, hB⟩
    have hll := rowsL_len quL 45000 (l.take i) (fun m hm => by have := quL_len m (hg m (List.mem_of_mem_take hm)); omega)
    rw [List.length_take, Nat.min_eq_left hi] at hll
    by_cases hc : i < l.length
    · have d1 : (i : Int) < ((l.length : Nat) : Int) := by omega
      have hi0 : (0 : Int) ≤ (i : Int) ∧ (i : Int) < ((l.length : Nat) : Int) := by omega
      obtain ⟨m, hm⟩ : ∃ m, l[i]? = some m := ⟨l[i], List.getElem?_eq_getElem hc⟩
      have hms := hg m (List.mem_of_getElem? hm)
      have hml := quL_len m hms
      obtain ⟨b, o, cur, t, f, rfl, hb, hsz, hex⟩ := (hv.keep hmu).at hm
      rw [Nat.add_assoc] at hsz hex
      have hw1 : IntKind.i64.wrap ((i : Int) + 1) = ((i + 1 : Nat) : Int) := by rw [wrap_i64 _ (by omega)]; omega
      have htk := rowsL_snoc quL l i m hm
      obtain ⟨u1, hu1⟩ : ∃ u1, u1 = Vc.set (u.alloc (.cells #[.string ⟨#[]⟩, .int .u32 0, .int .u64 0, .int .u32 0, .string ⟨#[]⟩] 41)) u.heap.size (.cells #[.string m.name, .int .u32 m.most, .int .u64 m.ttl, .int .u32 m.tries, .string m.dead] 41) := ⟨_, rfl⟩
      have hmu1 : Mod (fun _ => False) u u1 := by rw [hu1]; exact ((Mod.refl _ _).alloc _).set (.inl (Nat.le_refl _))
      have x1 : u1.heap[u.heap.size]? = some (.cells #[.string m.name, .int .u32 m.most, .int .u64 m.ttl, .int .u32 m.tries, .string m.dead] 41 (0, 0)) := by rw [hu1]; exact get_set_same _ _ _ (by rw [size_alloc]; omega)
      simp only [vc_skip, vc_seq, vc_cond, vc_block, vc_ops, vcOps_nil, vcOps_cons, goL_apply, thenQ_normal, condP_true, upd_same, upd_other, updO_some, updO_none, ev_tmp, insVc, loadV_some, loadNK, loadNO_cells, storeNK, storeNO_cells, setMany, iopK, iopV, nilOf, pnilK, iaddrK, callvK, isPlain, Value.cells, ne_eq, not_false_eq_true, Nat.reduceEqDiff, Nat.reduceAdd, Nat.reduceLeDiff, reduceCtorEq, Bool.not_false, List.map_cons, List.map_nil, List.size_toArray, List.length_cons, List.length_nil, List.setIfInBounds_toArray, List.set_cons_zero, List.set_cons_succ, List.nil_append, List.append_nil, true_and, or_false, and_self, if_true, Nat.zero_add, decide_true, Bool.and_true, Int.toNat_natCast, List.extract_toArray, List.extract_eq_take_drop, List.drop_zero, List.take_zero, List.take_succ_cons, Nat.sub_zero, List.all_toArray', List.all_cons, List.all_nil, size_alloc, get_set_same, Nat.lt_add_one, get_alloc, size_alloc, Nat.add_assoc, Nat.reduceAdd, Nat.reduceEqDiff, h1, h8, h9, h10, d1, hi0, hb, hsz, hex, Qu.cells]
      rw [← hu1]
      unfold CallK
      show Ok Proofs.Tryz.prog 9 #[m.val] u1 _
      have htt := ht.mod (hmu.trans hmu1)
      refine qu_c m hms u1 _ htt ?_
      intro u2 hm2
      have hm12 := hmu1.trans hm2
      simp only [vcOps_cons, goL_apply, upd_same, upd_other, updO_some, ev_tmp, ev_const, insVc, ne_eq, not_false_eq_true, Nat.reduceEqDiff, Nat.reduceLeDiff, List.map_cons, List.map_nil, List.length_cons, List.length_nil, Nat.zero_add, sopK_add, h5]
      refine ⟨by omega, ?_⟩
      have hB2 := hB.keep hm12
      have hz2 := (hmu.trans hm12).size
      have hle : (rowsL quL (l.take i)).length + (⟨(quL m ++ [10]).toArray⟩ : ByteArray).size ≤ 140737488355328 := by
        rw [mk_size, List.length_append]; simp only [List.length_cons, List.length_nil]; omega
      refine wstr_c _ _ _ _ u2 _ hB2 hle hz2 ?_
      intro u3 hm3 hB3
      simp only [vc_ops, vcOps_nil, vcOps_cons, goL_apply, thenQ_normal, blockQ_normal, upd_same, upd_other, updO_some, ev_tmp, ev_const, insVc, loadV_some, iopK, iopV, ne_eq, not_false_eq_true, Nat.reduceEqDiff, reduceCtorEq, true_and, or_false, h1, h5, h8, h9, h10, hw1]
      exact ⟨l.length - (i + 1), by omega, i + 1, by omega, rfl, rfl, (hmu.trans hm12).then hm3 (fun k hk hk' => by omega), by rw [htk]; exact hB3⟩
    · have d1 : ¬ (i : Int) < ((l.length : Nat) : Int) := by omega
      have hie : i = l.length := by omega
      rw [hie, List.take_length] at hB
      simp only [vc_seq, vc_cond, vc_exit, vc_ops, vcOps_nil, vcOps_cons, goL_apply, thenQ_normal, thenQ_exit, blockQ_same, condP_false, upd_same, upd_other, updO_some, ev_tmp, insVc, loadV_some, iopK, iopV, ne_eq, not_false_eq_true, Nat.reduceEqDiff, reduceCtorEq, List.map_cons, List.map_nil, true_and, or_false, decide_false, h5, h9, h10, d1]
      refine bstring_c w.heap.size w.heap.size _ u _ hB hmu.size ?_
      intro u1 hm1
      simp only [vc_ret, vcOps_nil, vcOps_cons, goL_apply, thenQ_normal, upd_same, updO_some, ev_tmp, endQ_ret, endK, resK, packed, insVc, List.nil_append]
      exact h u1 (hmu.then hm1 (fun k hk hk' => by omega))

theorem linesB_c (l : List Bd) (v : Value) (w : World) (K : Value → World → Prop) (ht : Tab w) (hv : IsT Bd.cells 4 w v l) (hl : l.length ≤ 100) (hg : ∀ x ∈ l, x.small)
    (h : ∀ w', Mod (fun _ => False) w w' → K (.string ⟨(rowsL bdL l).toArray⟩) w') : Ok Proofs.Tryz.prog 35 #[v, .func (.func 36) #[] #[]] w K := by
  obtain ⟨⟨a, cp, rfl⟩, _⟩ := id hv
  refine F35.enter (args := [.slice a l.length cp, .func (.func 36) #[] #[]]) (by simp) ?_
  unfold c35 r35
  simp only [vc_seq, vc_block, vc_ops, vcOps_nil, vcOps_cons, goL_apply, thenQ_normal, upd_same, upd_other, updO_some, ev_tmp, ev_const, initE_at, insVc, lenLK, Value.cells, ne_eq, not_false_eq_true, reduceCtorEq, Option.getD_some, List.getElem?_cons_zero]
  have hB1 : IsB (w.alloc (.cells #[.pointer none, .slice none 0 0] 81)) w.heap.size w.heap.size [] := isB_fresh _ _ (get_alloc_new _ _)
  refine vc_loop (fun mm ρ ds u => ∃ i, i ≤ l.length ∧ mm = l.length - i ∧ ds = [] ∧ ρ 1 = .func (.func 36) #[] #[] ∧ ρ 5 = ptr w.heap.size ∧ ρ 8 = .slice a l.length cp ∧ ρ 9 = .int .i64 l.length ∧ ρ 10 = .int .i64 i ∧
    Mod (fun _ => False) w u ∧ IsB u w.heap.size w.heap.size (rowsL bdL (l.take i))) l.length ?_ ?_
  · refine ⟨0, Nat.zero_le _, rfl, rfl, ?_, ?_, ?_, ?_, ?_, (Mod.refl _ _).alloc _, hB1⟩ <;> simp only [upd_same, upd_other, initE_at, ne_eq, not_false_eq_true, Nat.reduceEqDiff, Option.getD_some, List.getElem?_cons_zero, List.getElem?_cons_succ]
    rfl
  · rintro mm ρ ds u ⟨i, hi, rfl, rfl, h1, h5, h8, h9, h10, hmu, hB⟩
    have hll := rowsL_len bdL 45000 (l.take i) (fun m hm => by have := bdL_len m (hg m (List.mem_of_mem_take hm)); omega)
    rw [List.length_take, Nat.min_eq_left hi] at hll
    by_cases hc : i < l.length
    · have d1 : (i : Int) < ((l.length : Nat) : Int) := by omega
      have hi0 : (0 : Int) ≤ (i : Int) ∧ (i : Int) < ((l.length : Nat) : Int) := by omega
      obtain ⟨m, hm⟩ : ∃ m, l[i]? = some m := ⟨l[i], List.getElem?_eq_getElem hc⟩
      have hms := hg m (List.mem_of_getElem? hm)
      have hml := bdL_len m hms
      obtain ⟨b, o, cur, t, f, rfl, hb, hsz, hex⟩ := (hv.keep hmu).at hm
      rw [Nat.add_assoc] at hsz hex
      have hw1 : IntKind.i64.wrap ((i : Int) + 1) = ((i + 1 : Nat) : Int) := by rw [wrap_i64 _ (by omega)]; omega
      have htk := rowsL_snoc bdL l i m hm
      obtain ⟨u1, hu1⟩ : ∃ u1, u1 = Vc.set (u.alloc (.cells #[.string ⟨#[]⟩, .int .i64 0, .string ⟨#[]⟩, .string ⟨#[]⟩] 61)) u.heap.size (.cells #[.string m.ex, .int .i64 m.kind, .string m.key, .string m.queue] 61) := ⟨_, rfl⟩
      have hmu1 : Mod (fun _ => False) u u1 := by rw [hu1]; exact ((Mod.refl _ _).alloc _).set (.inl (Nat.le_refl _))
      have x1 : u1.heap[u.heap.size]? = some (.cells #[.string m.ex, .int .i64 m.kind, .string m.key, .string m.queue] 61 (0, 0)) := by rw [hu1]; exact get_set_same _ _ _ (by rw [size_alloc]; omega)
      simp only [vc_skip, vc_seq, vc_cond, vc_block, vc_ops, vcOps_nil, vcOps_cons, goL_apply, thenQ_normal, condP_true, upd_same, upd_other, updO_some, updO_none, ev_tmp, insVc, loadV_some, loadNK, loadNO_cells, storeNK, storeNO_cells, setMany, iopK, iopV, nilOf, pnilK, iaddrK, callvK, isPlain, Value.cells, ne_eq, not_false_eq_true, Nat.reduceEqDiff, Nat.reduceAdd, Nat.reduceLeDiff, reduceCtorEq, Bool.not_false, List.map_cons, List.map_nil, List.size_toArray, List.length_cons, List.length_nil, List.setIfInBounds_toArray, List.set_cons_zero, List.set_cons_succ, List.nil_append, List.append_nil, true_and, or_false, and_self, if_true, Nat.zero_add, decide_true, Bool.and_true, Int.toNat_natCast, List.extract_toArray, List.extract_eq_take_drop, List.drop_zero, List.take_zero, List.take_succ_cons, Nat.sub_zero, List.all_toArray', List.all_cons, List.all_nil, size_alloc, get_set_same, Nat.lt_add_one, get_alloc, size_alloc, Nat.add_assoc, Nat.reduceAdd, Nat.reduceEqDiff, h1, h8, h9, h10, d1, hi0, hb, hsz, hex, Bd.cells]
      rw [← hu1]
      unfold CallK
      show Ok Proofs.Tryz.prog 36 #[.agg m.cells.toArray] u1 _
      have htt := ht.mod (hmu.trans hmu1)
      refine bd_c m hms u1 _ htt ?_
      intro u2 hm2
      have hm12 := hmu1.trans hm2
      simp only [vcOps_cons, goL_apply, upd_same, upd_other, updO_some, ev_tmp, ev_const, insVc, ne_eq, not_false_eq_true, Nat.reduceEqDiff, Nat.reduceLeDiff, List.map_cons, List.map_nil, List.length_cons, List.length_nil, Nat.zero_add, sopK_add, h5]
      refine ⟨by omega, ?_⟩
      have hB2 := hB.keep hm12
      have hz2 := (hmu.trans hm12).size
      have hle : (rowsL bdL (l.take i)).length + (⟨(bdL m ++ [10]).toArray⟩ : ByteArray).size ≤ 140737488355328 := by
        rw [mk_size, List.length_append]; simp only [List.length_cons, List.length_nil]; omega
      refine wstr_c _ _ _ _ u2 _ hB2 hle hz2 ?_
      intro u3 hm3 hB3
      simp only [vc_ops, vcOps_nil, vcOps_cons, goL_apply, thenQ_normal, blockQ_normal, upd_same, upd_other, updO_some, ev_tmp, ev_const, insVc, loadV_some, iopK, iopV, ne_eq, not_false_eq_true, Nat.reduceEqDiff, reduceCtorEq, true_and, or_false, h1, h5, h8, h9, h10, hw1]
      exact ⟨l.length - (i + 1), by omega, i + 1, by omega, rfl, rfl, (hmu.trans hm12).then hm3 (fun k hk hk' => by omega), by rw [htk]; exact hB3⟩
    · have d1 : ¬ (i : Int) < ((l.length : Nat) : Int) := by omega
      have hie : i = l.length := by omega
      rw [hie, List.take_length] at hB
      simp only [vc_seq, vc_cond, vc_exit, vc_ops, vcOps_nil, vcOps_cons, goL_apply, thenQ_normal, thenQ_exit, blockQ_same, condP_false, upd_same, upd_other, updO_some, ev_tmp, insVc, loadV_some, iopK, iopV, ne_eq, not_false_eq_true, Nat.reduceEqDiff, reduceCtorEq, List.map_cons, List.map_nil, true_and, or_false, decide_false, h5, h9, h10, d1]
      refine bstring_c w.heap.size w.heap.size _ u _ hB hmu.size ?_
      intro u1 hm1
      simp only [vc_ret, vcOps_nil, vcOps_cons, goL_apply, thenQ_normal, upd_same, updO_some, ev_tmp, endQ_ret, endK, resK, packed, insVc, List.nil_append]
      exact h u1 (hmu.then hm1 (fun k hk hk' => by omega))

theorem linesM_c (l : List Ms) (v : Value) (w : World) (K : Value → World → Prop) (ht : Tab w) (hv : IsT Ms.cells 5 w v l) (hl : l.length ≤ 100) (hg : ∀ x ∈ l, x.small)
    (h : ∀ w', Mod (fun _ => False) w w' → K (.string ⟨(rowsL msgL l).toArray⟩) w') : Ok Proofs.Tryz.prog 37 #[v, .func (.func 11) #[] #[]] w K := by
  obtain ⟨⟨a, cp, rfl⟩, _⟩ := id hv
  refine F37.enter (args := [.slice a l.length cp, .func (.func 11) #[] #[]]) (by simp) ?_
  unfold c37 r37
  simp only [vc_seq, vc_block, vc_ops, vcOps_nil, vcOps_cons, goL_apply, thenQ_normal, upd_same, upd_other, updO_some, ev_tmp, ev_const, initE_at, insVc, lenLK, Value.cells, ne_eq, not_false_eq_true, reduceCtorEq, Option.getD_some, List.getElem?_cons_zero]
  have hB1 : IsB (w.alloc (.cells #[.pointer none, .slice none 0 0] 81)) w.heap.size w.heap.size [] := isB_fresh _ _ (get_alloc_new _ _)
  refine vc_loop (fun mm ρ ds u => ∃ i, i ≤ l.length ∧ mm = l.length - i ∧ ds = [] ∧ ρ 1 = .func (.func 11) #[] #[] ∧ ρ 5 = ptr w.heap.size ∧ ρ 8 = .slice a l.length cp ∧ ρ 9 = .int .i64 l.length ∧ ρ 10 = .int .i64 i ∧
    Mod (fun _ => False) w u ∧ IsB u w.heap.size w.heap.size (rowsL msgL (l.take i))) l.length ?_ ?_
  · refine ⟨0, Nat.zero_le _, rfl, rfl, ?_, ?_, ?_, ?_, ?_, (Mod.refl _ _).alloc _, hB1⟩ <;> simp only [upd_same, upd_other, initE_at, ne_eq, not_false_eq_true, Nat.reduceEqDiff, Option.getD_some, List.getElem?_cons_zero, List.getElem?_cons_succ]
    rfl
  · rintro mm ρ ds u ⟨i, hi, rfl, rfl, h1, h5, h8, h9, h10, hmu, hB⟩
    have hll := rowsL_len msgL 45000 (l.take i) (fun m hm => by have := msgL_len m (hg m (List.mem_of_mem_take hm)); omega)
    rw [List.length_take, Nat.min_eq_left hi] at hll
    by_cases hc : i < l.length
    · have d1 : (i : Int) < ((l.length : Nat) : Int) := by omega
      have hi0 : (0 : Int) ≤ (i : Int) ∧ (i : Int) < ((l.length : Nat) : Int) := by omega
      obtain ⟨m, hm⟩ : ∃ m, l[i]? = some m := ⟨l[i], List.getElem?_eq_getElem hc⟩
      have hms := hg m (List.mem_of_getElem? hm)
      have hml := msgL_len m hms
      obtain ⟨b, o, cur, t, f, rfl, hb, hsz, hex⟩ := (hv.keep hmu).at hm
      rw [Nat.add_assoc] at hsz hex
      have hw1 : IntKind.i64.wrap ((i : Int) + 1) = ((i + 1 : Nat) : Int) := by rw [wrap_i64 _ (by omega)]; omega
      have htk := rowsL_snoc msgL l i m hm
      obtain ⟨u1, hu1⟩ : ∃ u1, u1 = Vc.set (u.alloc (.cells #[.string ⟨#[]⟩, .int .u64 0, .int .u32 0, .int .u64 0, .string ⟨#[]⟩] 44)) u.heap.size (.cells #[.string m.queue, .int .u64 m.id, .int .u32 m.tries, .int .u64 m.expiry, .string m.body] 44) := ⟨_, rfl⟩
      have hmu1 : Mod (fun _ => False) u u1 := by rw [hu1]; exact ((Mod.refl _ _).alloc _).set (.inl (Nat.le_refl _))
      have x1 : u1.heap[u.heap.size]? = some (.cells #[.string m.queue, .int .u64 m.id, .int .u32 m.tries, .int .u64 m.expiry, .string m.body] 44 (0, 0)) := by rw [hu1]; exact get_set_same _ _ _ (by rw [size_alloc]; omega)
      simp only [vc_skip, vc_seq, vc_cond, vc_block, vc_ops, vcOps_nil, vcOps_cons, goL_apply, thenQ_normal, condP_true, upd_same, upd_other, updO_some, updO_none, ev_tmp, insVc, loadV_some, loadNK, loadNO_cells, storeNK, storeNO_cells, setMany, iopK, iopV, nilOf, pnilK, iaddrK, callvK, isPlain, Value.cells, ne_eq, not_false_eq_true, Nat.reduceEqDiff, Nat.reduceAdd, Nat.reduceLeDiff, reduceCtorEq, Bool.not_false, List.map_cons, List.map_nil, List.size_toArray, List.length_cons, List.length_nil, List.setIfInBounds_toArray, List.set_cons_zero, List.set_cons_succ, List.nil_append, List.append_nil, true_and, or_false, and_self, if_true, Nat.zero_add, decide_true, Bool.and_true, Int.toNat_natCast, List.extract_toArray, List.extract_eq_take_drop, List.drop_zero, List.take_zero, List.take_succ_cons, Nat.sub_zero, List.all_toArray', List.all_cons, List.all_nil, size_alloc, get_set_same, Nat.lt_add_one, get_alloc, size_alloc, Nat.add_assoc, Nat.reduceAdd, Nat.reduceEqDiff, h1, h8, h9, h10, d1, hi0, hb, hsz, hex, Ms.cells]
      rw [← hu1]
      unfold CallK
      show Ok Proofs.Tryz.prog 11 #[m.val] u1 _
      have htt := ht.mod (hmu.trans hmu1)
      refine msg_c m hms u1 _ htt ?_
      intro u2 hm2
      have hm12 := hmu1.trans hm2
      simp only [vcOps_cons, goL_apply, upd_same, upd_other, updO_some, ev_tmp, ev_const, insVc, ne_eq, not_false_eq_true, Nat.reduceEqDiff, Nat.reduceLeDiff, List.map_cons, List.map_nil, List.length_cons, List.length_nil, Nat.zero_add, sopK_add, h5]
      refine ⟨by omega, ?_⟩
      have hB2 := hB.keep hm12
      have hz2 := (hmu.trans hm12).size
      have hle : (rowsL msgL (l.take i)).length + (⟨(msgL m ++ [10]).toArray⟩ : ByteArray).size ≤ 140737488355328 := by
        rw [mk_size, List.length_append]; simp only [List.length_cons, List.length_nil]; omega
      refine wstr_c _ _ _ _ u2 _ hB2 hle hz2 ?_
      intro u3 hm3 hB3
      simp only [vc_ops, vcOps_nil, vcOps_cons, goL_apply, thenQ_normal, blockQ_normal, upd_same, upd_other, updO_some, ev_tmp, ev_const, insVc, loadV_some, iopK, iopV, ne_eq, not_false_eq_true, Nat.reduceEqDiff, reduceCtorEq, true_and, or_false, h1, h5, h8, h9, h10, hw1]
      exact ⟨l.length - (i + 1), by omega, i + 1, by omega, rfl, rfl, (hmu.trans hm12).then hm3 (fun k hk hk' => by omega), by rw [htk]; exact hB3⟩
    · have d1 : ¬ (i : Int) < ((l.length : Nat) : Int) := by omega
      have hie : i = l.length := by omega
      rw [hie, List.take_length] at hB
      simp only [vc_seq, vc_cond, vc_exit, vc_ops, vcOps_nil, vcOps_cons, goL_apply, thenQ_normal, thenQ_exit, blockQ_same, condP_false, upd_same, upd_other, updO_some, ev_tmp, insVc, loadV_some, iopK, iopV, ne_eq, not_false_eq_true, Nat.reduceEqDiff, reduceCtorEq, List.map_cons, List.map_nil, true_and, or_false, decide_false, h5, h9, h10, d1]
      refine bstring_c w.heap.size w.heap.size _ u _ hB hmu.size ?_
      intro u1 hm1
      simp only [vc_ret, vcOps_nil, vcOps_cons, goL_apply, thenQ_normal, upd_same, updO_some, ev_tmp, endQ_ret, endK, resK, packed, insVc, List.nil_append]
      exact h u1 (hmu.then hm1 (fun k hk hk' => by omega))
end Go.Oct
