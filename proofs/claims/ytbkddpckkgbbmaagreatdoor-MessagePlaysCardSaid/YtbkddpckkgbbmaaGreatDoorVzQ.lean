import Derived.Test.YtbkddpckkgbbmaaGreatDoorVzP
set_option linter.unusedSimpArgs false
set_option linter.unusedVariables false
set_option linter.unusedSectionVars false
set_option linter.unnecessarySimpa false
namespace Go.Oct
open Go Go.Vc Go.VrA Go.VrB Go.VrC Go.VrE
set_option maxRecDepth 100000

/-! ### law 22's do: the walk -/

theorem do22_c (sb mb : Nat) (h0 : 0 ≠ mb) (c : Nat) (map : M) (B : List Ms) (a : Ac) (v : Value) (m : Int) (w : World) (K : Value → World → Prop) (hAt : (shelf sb mb h0).At (c, map) w) (hg : Gl m w) (hz : 0 < w.heap.size)
    (hr : Rl B map) (hB : B.length < 2 ^ 18) (hml : map.length * 16 ≤ 140737488355328) (hv : IsBx w v B) (ha : a.m.anyQ) (hx : a.nx.anyQ) (hc : c + 4 < maxLen)
    (h : ∀ w' v' c' map', Mod (fun k => k = mb) w w' → (shelf sb mb h0).At (c', map') w' → Rl (doR a B) map' → c' ≤ c + 2 → IsBx w' v' (doR a B) → K (.tuple #[v', .bool true]) w') :
    Ok Proofs.Tryz.prog 35 #[.iface 26 (ptr sb), v, a.val] w K := by
  refine F35.enter (args := [.iface 26 (ptr sb), v, a.val]) (by simp) ?_
  unfold c35 r35
  obtain ⟨w1, hw1⟩ : ∃ w1, w1 = Vc.set ((w.alloc (.cells #[.int .i64 a.act, .string a.m.queue, .int .u64 a.m.id, .int .u32 a.m.tries, .int .u64 a.m.expiry, .string a.m.body, .string a.nx.queue, .int .u64 a.nx.id, .int .u32 a.nx.tries, .int .u64 a.nx.expiry, .string a.nx.body] 89)).alloc (.cells #[.string ⟨#[]⟩, .int .u64 0, .int .u32 0, .int .u64 0, .string ⟨#[]⟩] 49)) (w.heap.size + 1) (.cells #[.string a.m.queue, .int .u64 a.m.id, .int .u32 a.m.tries, .int .u64 a.m.expiry, .string a.m.body] 49) := ⟨_, rfl⟩
  have hm1 : Mod (fun _ => False) w w1 := by rw [hw1]; exact (((Mod.refl _ _).alloc _).alloc _).set (.inl (by omega))
  have x1 : w1.heap[w.heap.size]? = some (.cells #[.int .i64 a.act, .string a.m.queue, .int .u64 a.m.id, .int .u32 a.m.tries, .int .u64 a.m.expiry, .string a.m.body, .string a.nx.queue, .int .u64 a.nx.id, .int .u32 a.nx.tries, .int .u64 a.nx.expiry, .string a.nx.body] 89 (0, 0)) := by rw [hw1]; simp only [Nat.reduceAdd, and_true, if_true, if_false, size_alloc, Nat.lt_add_one, get_alloc, get_set, size_alloc, Nat.add_assoc, Nat.reduceAdd, Nat.left_eq_add, Nat.one_ne_zero]
  have y1 : w1.heap[w.heap.size + 1]? = some (.cells #[.string a.m.queue, .int .u64 a.m.id, .int .u32 a.m.tries, .int .u64 a.m.expiry, .string a.m.body] 49 (0, 0)) := by rw [hw1]; simp only [Nat.reduceAdd, size_alloc, get_set_same, Nat.lt_add_one, size_alloc, Nat.add_assoc, Nat.reduceAdd]
  have hA1 := (shelf sb mb h0).keep0 hAt hm1
  have hg1 := hg.mod hm1 id
  have hB1 := hv.keep hm1
  have hz1 : 0 < w1.heap.size := by have := hm1.size; omega
  have hmbw : mb < w.heap.size := World.ownsMap.lt hAt.2.1
  obtain ⟨⟨am1, am2, am3, am4⟩, am5⟩ := ha
  obtain ⟨⟨ax1, ax2, ax3, ax4⟩, ax5⟩ := hx
  have hgood : a.m.good := ⟨am3, am2, by omega⟩
  have hgoodx : a.nx.good := ⟨ax3, ax2, by omega⟩
  have hpg := pureGet_shelf sb mb h0 (c, map)
  have hvg : ((shelf sb mb h0).get (c, map) (messageK a.m.queue a.m.id).1).1.1.size < 2 ^ 60 := get_size sb mb h0 _ _ (by decide) hr.vals _
  have hmx := mget_any sb mb h0 c hr a.m.queue am1
  have e0t : ∀ z : Int, (z == z) = true := fun z => by simp
  -- what each arm ends in
  have fin : ∀ (w3 w5 : World) (v3 : Value) (c' : Nat) (map' : M), Mod (fun _ => False) w w3 → (shelf sb mb h0).At (c, map) w3 → Mod (fun k => k = mb) w3 w5 → (shelf sb mb h0).At (c', map') w5 → IsBx w3 v3 (doR a B) → Rl (doR a B) map' → c' ≤ c + 2 → K (.tuple #[v3, .bool true]) w5 := by
    intro w3 w5 v3 c' map' k1 k2 k3 k4 k5 k6 k7
    exact h w5 v3 c' map' ((k1.mono fun _ _ x => x.elim).trans k3) k4 k6 k7 (k5.modMap k2.2.1 k3)
  have t1 := Int.tmod_lt_of_pos a.act (b := 5) (by decide)
  have t2 := Int.lt_tmod_of_pos a.act (b := 5) (by decide)
  by_cases k1 : a.act.tmod 5 = 1 ∨ a.act.tmod 5 = -1
  · have hdo : doR a B = (saveR a.m B).1 := by unfold doR; rw [if_pos k1]
    rw [hdo] at fin
    rcases k1 with k1 | k1
    all_goals
      simp only [vc_skip, vc_seq, vc_cond, vc_block, vc_ops, vcOps_nil, vcOps_cons, goL_apply, thenQ_normal, condP_true, condP_false, upd_same, upd_other, updO_some, updO_none, ev_tmp, ev_const, initE_at, insVc, load1K, loadO_cells, loadV_some, loadNK, loadNO_cells, storeNK, storeNO_cells, setMany, iopK, iopV, faddrK, isPlain, Value.cells, ne_eq, not_false_eq_true, Nat.reduceEqDiff, Nat.reduceAdd, Nat.reduceLeDiff, reduceCtorEq, Option.getD_some, List.map_cons, List.map_nil, List.getElem?_cons_zero, List.getElem?_cons_succ, List.getElem?_toArray, List.size_toArray, List.length_cons, List.length_nil, List.setIfInBounds_toArray, List.set_cons_zero, List.set_cons_succ, List.nil_append, List.cons_append, true_and, and_true, or_false, and_self, if_true, if_false, Nat.zero_add, Nat.add_zero, Bool.and_true, Int.reduceNeg, Int.reduceEq, Int.reduceBEq, List.extract_toArray, List.extract_eq_take_drop, List.drop_zero, List.drop_succ_cons, List.take_zero, List.take_succ_cons, Nat.sub_zero, Nat.reduceSub, List.all_toArray', List.all_cons, List.all_nil, size_alloc, get_set_same, Nat.lt_add_one, Ac.val, Ac.cells, Ms.cells, get_alloc, get_set, size_alloc, Nat.add_assoc, Nat.reduceAdd, Nat.add_eq_left, Nat.left_eq_add, Nat.reduceEqDiff, Nat.one_ne_zero, k1]
      rw [← hw1]
      refine rsave_c B a.m v w1 _ hB1 (by omega) (by omega) am1 am2 ?_
      intro w2 v2 hm2 hB2
      have y2 := hm2.keep y1 id
      have hm12 := hm1.trans hm2
      have hA2 := (shelf sb mb h0).keep0 hAt hm12
      simp only [vc_seq, vc_ops, vcOps_nil, vcOps_cons, goL_apply, thenQ_normal, upd_same, upd_other, updO_some, ev_tmp, initE_at, insVc, loadV_some, loadNK, loadNO_cells, extK, ne_eq, not_false_eq_true, Nat.reduceEqDiff, Nat.reduceAdd, Nat.reduceLeDiff, reduceCtorEq, Option.getD_some, List.map_cons, List.map_nil, List.getElem?_cons_zero, List.getElem?_cons_succ, List.getElem?_toArray, List.size_toArray, List.length_cons, List.length_nil, true_and, Nat.zero_add, Int.reduceNeg, List.extract_toArray, List.extract_eq_take_drop, List.drop_zero, List.take_zero, List.take_succ_cons, Nat.sub_zero, y2]
      refine msave_c (shelfC sb mb h0) (c, map) hpg a.m m w2 _ hA2 (hg.mod hm12 id) (by have := hm2.size; omega) (by omega) am1 hgood hvg hmx ?_ ?_
      · have fs : ∀ s' : Nat × M, s'.1 = c → (shelf sb mb h0).fit s' ∧ (shelf sb mb h0).fit ((shelf sb mb h0).put s' (keysR a.m).1 (mbytes a.m)).2 := fun s' e => ⟨by show s'.1 < maxLen; omega, fit_put sb mb h0 s' _ _ (by omega)⟩
        rintro s' (rfl | rfl)
        · exact fs _ rfl
        · exact fs _ (mcut_fst sb mb h0 _ _)
      intro w3 hm3 hA3
      obtain ⟨c', map', e, hc', hr'⟩ := save_shelf sb mb h0 c map B a.m hr ⟨am1, am2, am3, am4⟩
      rw [e] at hA3 ⊢
      simp only [vc_ret, vcOps_nil, vcOps_cons, goL_apply, thenQ_normal, thenQ_ret, blockQ_ret, upd_same, upd_other, updO_some, ev_tmp, endQ_ret, endK, resK, packed, insVc, loadV_some, iopK, iopV, ne_eq, not_false_eq_true, Nat.reduceEqDiff, reduceCtorEq, List.nil_append, List.cons_append, true_and, or_false, Int.reduceNeg, e0t]
      exact fin w2 w3 v2 c' map' hm12 hA2 hm3 hA3 hB2 hr' hc'
  by_cases k2 : a.act.tmod 5 = 2 ∨ a.act.tmod 5 = -2
  · have hdo : doR a B = (takeR a.m.queue a.m.id B).1 := by unfold doR; rw [if_neg k1, if_pos k2]
    rw [hdo] at fin
    rcases k2 with k2 | k2
    all_goals
      simp only [vc_skip, vc_seq, vc_cond, vc_block, vc_ops, vcOps_nil, vcOps_cons, goL_apply, thenQ_normal, condP_true, condP_false, upd_same, upd_other, updO_some, updO_none, ev_tmp, ev_const, initE_at, insVc, load1K, loadO_cells, loadV_some, loadNK, loadNO_cells, storeNK, storeNO_cells, setMany, iopK, iopV, faddrK, isPlain, Value.cells, ne_eq, not_false_eq_true, Nat.reduceEqDiff, Nat.reduceAdd, Nat.reduceLeDiff, reduceCtorEq, Option.getD_some, List.map_cons, List.map_nil, List.getElem?_cons_zero, List.getElem?_cons_succ, List.getElem?_toArray, List.size_toArray, List.length_cons, List.length_nil, List.setIfInBounds_toArray, List.set_cons_zero, List.set_cons_succ, List.nil_append, List.cons_append, true_and, and_true, or_false, and_self, if_true, if_false, Nat.zero_add, Nat.add_zero, Bool.and_true, Int.reduceNeg, Int.reduceEq, Int.reduceBEq, List.extract_toArray, List.extract_eq_take_drop, List.drop_zero, List.drop_succ_cons, List.take_zero, List.take_succ_cons, Nat.reduceSub, List.all_toArray', List.all_cons, List.all_nil, size_alloc, get_set_same, Nat.lt_add_one, Ac.val, Ac.cells, Ms.cells, get_alloc, get_set, size_alloc, Nat.add_assoc, Nat.reduceAdd, Nat.add_eq_left, Nat.left_eq_add, Nat.reduceEqDiff, Nat.one_ne_zero, k2]
      rw [← hw1]
      refine rtake_c B a.m.queue a.m.id v w1 _ hB1 (by omega) ?_
      intro w2 v2 hm2 hB2
      have hm12 := hm1.trans hm2
      obtain ⟨map', e, hr'⟩ := take_shelf sb mb h0 c map B a.m.queue a.m.id hr am1
      obtain ⟨q, hq⟩ : ∃ q, q = (takeR a.m.queue a.m.id B).2.1 := ⟨_, rfl⟩
      obtain ⟨w3, hw3⟩ : ∃ w3, w3 = Vc.set (w2.alloc (.cells #[.string ⟨#[]⟩, .int .u64 0, .int .u32 0, .int .u64 0, .string ⟨#[]⟩] 49)) w2.heap.size (.cells #[.string q.queue, .int .u64 q.id, .int .u32 q.tries, .int .u64 q.expiry, .string q.body] 49) := ⟨_, rfl⟩
      have hm3 : Mod (fun _ => False) w2 w3 := by rw [hw3]; exact ((Mod.refl _ _).alloc _).set (.inl (Nat.le_refl _))
      have q3 : w3.heap[w2.heap.size]? = some (.cells #[.string q.queue, .int .u64 q.id, .int .u32 q.tries, .int .u64 q.expiry, .string q.body] 49 (0, 0)) := by rw [hw3]; exact get_set_same _ _ _ (by rw [size_alloc]; omega)
      have hm13 := hm12.trans hm3
      have y3 := (hm2.trans hm3).keep y1 id
      have hA3 := (shelf sb mb h0).keep0 hAt hm13
      rw [← hq]
      simp only [vc_seq, vc_ops, vcOps_nil, vcOps_cons, goL_apply, thenQ_normal, upd_same, upd_other, updO_some, updO_none, ev_tmp, initE_at, insVc, load1K, loadV_some, storeNK, storeNO_cells, setMany, faddrK, extK, isPlain, Value.cells, ne_eq, not_false_eq_true, Nat.reduceEqDiff, Nat.reduceAdd, Nat.reduceLeDiff, reduceCtorEq, Option.getD_some, List.getElem?_cons_zero, List.getElem?_cons_succ, List.getElem?_toArray, List.size_toArray, List.length_cons, List.length_nil, List.setIfInBounds_toArray, List.set_cons_zero, List.set_cons_succ, true_and, and_self, Nat.zero_add, Nat.add_zero, Bool.and_true, Int.reduceNeg, List.all_toArray', List.all_cons, List.all_nil, get_alloc_new, Ms.val, Ms.cells]
      rw [← hw3]
      simp only [vcOps_cons, goL_apply, upd_same, upd_other, updO_some, ev_tmp, insVc, load1K, loadO_cells, loadV_some, faddrK, ne_eq, not_false_eq_true, Nat.reduceEqDiff, List.map_cons, List.map_nil, List.getElem?_cons_zero, List.getElem?_cons_succ, List.getElem?_toArray, Nat.zero_add, Int.reduceNeg, y3]
      refine mtake_c (shelfC sb mb h0) (c, map) hpg a.m.queue a.m.id m w3 _ hA3 (hg.mod hm13 id) (by have := hm13.size; omega) (by omega) am1 hvg hmx ?_
      intro w4 hm4 hA4
      rw [e] at hA4 ⊢
      have hq' : (takeR a.m.queue a.m.id B).2.1 = q := hq.symm
      simp only [hq']
      obtain ⟨w5, hw5⟩ : ∃ w5, w5 = Vc.set (w4.alloc (.cells #[.string ⟨#[]⟩, .int .u64 0, .int .u32 0, .int .u64 0, .string ⟨#[]⟩] 49)) w4.heap.size (.cells #[.string q.queue, .int .u64 q.id, .int .u32 q.tries, .int .u64 q.expiry, .string q.body] 49) := ⟨_, rfl⟩
      have hm5 : Mod (fun _ => False) w4 w5 := by rw [hw5]; exact ((Mod.refl _ _).alloc _).set (.inl (Nat.le_refl _))
      have q5 : w5.heap[w4.heap.size]? = some (.cells #[.string q.queue, .int .u64 q.id, .int .u32 q.tries, .int .u64 q.expiry, .string q.body] 49 (0, 0)) := by rw [hw5]; exact get_set_same _ _ _ (by rw [size_alloc]; omega)
      have hm4' : Mod (fun k => k = mb) w3 w4 := hm4
      have q3' := (hm4'.then hm5 (fun _ _ x => x.elim)).keep q3 (by have := hm12.size; omega)
      simp only [vc_seq, vc_ops, vcOps_nil, vcOps_cons, goL_apply, thenQ_normal, upd_same, upd_other, updO_some, updO_none, ev_tmp, insVc, loadV_some, loadNK, storeNK, storeNO_cells, setMany, extK, isPlain, Value.cells, ne_eq, not_false_eq_true, Nat.reduceEqDiff, Nat.reduceAdd, Nat.reduceLeDiff, List.getElem?_cons_zero, List.getElem?_cons_succ, List.getElem?_toArray, List.size_toArray, List.length_cons, List.length_nil, List.setIfInBounds_toArray, List.set_cons_zero, List.set_cons_succ, true_and, and_self, Nat.zero_add, Bool.and_true, Int.reduceNeg, List.all_toArray', List.all_cons, List.all_nil, get_alloc_new, Ms.val, Ms.cells]
      rw [← hw5]
      simp only [vcOps_cons, goL_apply, upd_same, upd_other, updO_some, ev_tmp, insVc, loadNK, loadNO_cells, ne_eq, not_false_eq_true, Nat.reduceEqDiff, Nat.reduceAdd, Nat.reduceLeDiff, List.size_toArray, List.length_cons, List.length_nil, true_and, Nat.zero_add, Int.reduceNeg, List.extract_toArray, List.extract_eq_take_drop, List.drop_zero, List.take_zero, List.take_succ_cons, Nat.sub_zero, q5, q3']
      refine rawK_eql_ms q rfl rfl rfl rfl rfl ?_
      simp only [vc_ret, vcOps_nil, vcOps_cons, vcOps_gate, gateK_true, gate_true, goL_apply, thenQ_normal, thenQ_ret, blockQ_ret, upd_same, upd_other, updO_some, ev_tmp, ev_const, endQ_ret, endK, resK, packed, insVc, pickK, loadV_some, iopK, iopV, ne_eq, not_false_eq_true, Nat.reduceEqDiff, reduceCtorEq, List.nil_append, List.cons_append, true_and, or_false, if_true, Int.reduceNeg, e0t]
      exact fin w3 w5 v2 c map' hm13 hA3 (hm4'.then hm5 (fun _ _ x => x.elim)) ((shelf sb mb h0).keep0 hA4 hm5) (hB2.keep hm3) hr' (by omega)
  by_cases k3 : a.act.tmod 5 = 3 ∨ a.act.tmod 5 = -3
  · have hdo : doR a B = (moveR a.m a.nx B).1 := by unfold doR; rw [if_neg k1, if_neg k2, if_pos k3]
    rw [hdo] at fin
    have htl : (takeR a.m.queue a.m.id B).1.length ≤ B.length := by
      unfold takeR
      split
      · exact Nat.le_refl _
      · exact withoutL_len _ _
    rcases k3 with k3 | k3
    all_goals
      simp only [vc_skip, vc_seq, vc_cond, vc_block, vc_ops, vcOps_nil, vcOps_cons, goL_apply, thenQ_normal, condP_true, condP_false, upd_same, upd_other, updO_some, updO_none, ev_tmp, ev_const, initE_at, insVc, load1K, loadO_cells, loadV_some, loadNK, loadNO_cells, storeNK, storeNO_cells, setMany, iopK, iopV, faddrK, isPlain, Value.cells, ne_eq, not_false_eq_true, Nat.reduceEqDiff, Nat.reduceAdd, Nat.reduceLeDiff, reduceCtorEq, Option.getD_some, List.map_cons, List.map_nil, List.getElem?_cons_zero, List.getElem?_cons_succ, List.getElem?_toArray, List.size_toArray, List.length_cons, List.length_nil, List.setIfInBounds_toArray, List.set_cons_zero, List.set_cons_succ, List.nil_append, List.cons_append, true_and, and_true, or_false, and_self, if_true, if_false, Nat.zero_add, Nat.add_zero, Bool.and_true, Int.reduceNeg, Int.reduceEq, Int.reduceBEq, List.extract_toArray, List.extract_eq_take_drop, List.drop_zero, List.drop_succ_cons, List.take_zero, List.take_succ_cons, Nat.reduceSub, List.all_toArray', List.all_cons, List.all_nil, size_alloc, get_set_same, Nat.lt_add_one, Ac.val, Ac.cells, Ms.cells, get_alloc, get_set, size_alloc, Nat.add_assoc, Nat.reduceAdd, Nat.add_eq_left, Nat.left_eq_add, Nat.reduceEqDiff, Nat.one_ne_zero, k3]
      rw [← hw1]
      refine rtake_c B a.m.queue a.m.id v w1 _ hB1 (by omega) ?_
      intro w2 v2 hm2 hB2
      have hm12 := hm1.trans hm2
      obtain ⟨mt, et, hrt⟩ := take_shelf sb mb h0 c map B a.m.queue a.m.id hr am1
      obtain ⟨c', map', e, hc', hr'⟩ := move_shelf sb mb h0 c map B a.m a.nx hr am1 ⟨ax1, ax2, ax3, ax4⟩
      have hmv : moveR a.m a.nx B = if (takeR a.m.queue a.m.id B).2.2 = 0 then addR a.nx (takeR a.m.queue a.m.id B).1 else ((takeR a.m.queue a.m.id B).1, (takeR a.m.queue a.m.id B).2.2) := rfl
      revert hmv hB2 htl
      generalize (takeR a.m.queue a.m.id B).1 = B2
      generalize (takeR a.m.queue a.m.id B).2.2 = e2
      generalize (takeR a.m.queue a.m.id B).2.1 = q
      intro htl hB2 hmv
      obtain ⟨w3, hw3⟩ : ∃ w3, w3 = Vc.set (w2.alloc (.cells #[.string ⟨#[]⟩, .int .u64 0, .int .u32 0, .int .u64 0, .string ⟨#[]⟩] 49)) w2.heap.size (.cells #[.string q.queue, .int .u64 q.id, .int .u32 q.tries, .int .u64 q.expiry, .string q.body] 49) := ⟨_, rfl⟩
      have hm3 : Mod (fun _ => False) w2 w3 := by rw [hw3]; exact ((Mod.refl _ _).alloc _).set (.inl (Nat.le_refl _))
      have hm13 := hm12.trans hm3
      have y3 := (hm2.trans hm3).keep y1 id
      have x3 := (hm2.trans hm3).keep x1 id
      have mv : ∀ (w4 : World) (G : Value → World → Prop), Mod (fun _ => False) w w4 → (∀ w5, Mod (fun k => k = mb) w4 w5 → (shelf sb mb h0).At (c', map') w5 → G (.int .i64 (moveR a.m a.nx B).2) w5) → Ok Proofs.Tryz.prog 98 #[.iface 26 (ptr sb), a.m.val, a.nx.val] w4 G := by
        intro w4 G hm4 hG
        refine mmove_c (shelfC sb mb h0) (c, map) hpg a.m a.nx m w4 _ ((shelf sb mb h0).keep0 hAt hm4) (hg.mod hm4 id) (by have := hm4.size; omega) (by omega) am1 (by omega) ax1 hgoodx hvg hmx ?_ ?_ ?_
        · rw [et]
          show c < maxLen; omega
        · rw [et]
          exact fit_put sb mb h0 (c, mt) _ _ (show c + 1 < maxLen by omega)
        · intro w5 hm5 hA5
          rw [e] at hA5 ⊢
          exact hG w5 hm5 hA5
      by_cases he : e2 = 0
      · have b1 : (e2 == 0) = true := by simp [he]
        rw [if_pos he] at hmv
        simp only [vc_seq, vc_cond, vc_ops, vcOps_nil, vcOps_cons, goL_apply, thenQ_normal, condP_true, upd_same, upd_other, updO_some, updO_none, ev_tmp, ev_const, insVc, loadV_some, loadNK, storeNK, storeNO_cells, setMany, iopK, iopV, faddrK, extK, isPlain, Value.cells, ne_eq, not_false_eq_true, Nat.reduceEqDiff, Nat.reduceAdd, Nat.reduceLeDiff, reduceCtorEq, List.getElem?_cons_zero, List.getElem?_cons_succ, List.getElem?_toArray, List.size_toArray, List.length_cons, List.length_nil, List.setIfInBounds_toArray, List.set_cons_zero, List.set_cons_succ, true_and, or_false, and_self, Nat.zero_add, Bool.and_true, Int.reduceNeg, List.all_toArray', List.all_cons, List.all_nil, get_alloc_new, Ms.val, Ms.cells, b1]
        rw [← hw3]
        simp only [vcOps_cons, goL_apply, upd_same, upd_other, updO_some, ev_tmp, insVc, loadNO_cells, ne_eq, not_false_eq_true, Nat.reduceEqDiff, Nat.reduceAdd, Nat.reduceLeDiff, List.map_cons, List.map_nil, List.size_toArray, List.length_cons, List.length_nil, true_and, Nat.zero_add, Int.reduceNeg, List.extract_toArray, List.extract_eq_take_drop, List.drop_zero, List.drop_succ_cons, List.take_zero, List.take_succ_cons, Nat.reduceSub, x3]
        refine radd_c B2 a.nx v2 w3 _ (hB2.keep hm3) (by omega) (by omega) ax1 ax2 ?_
        intro w4 v4 hm4 hB4
        have y4 := hm4.keep y3 id
        have x4 := hm4.keep x3 id
        have hm14 := hm13.trans hm4
        simp only [vc_seq, vc_ops, vcOps_nil, vcOps_cons, goL_apply, thenQ_normal, upd_same, upd_other, updO_some, ev_tmp, initE_at, insVc, loadV_some, loadNK, loadNO_cells, faddrK, extK, ne_eq, not_false_eq_true, Nat.reduceEqDiff, Nat.reduceAdd, Nat.reduceLeDiff, reduceCtorEq, Option.getD_some, List.map_cons, List.map_nil, List.getElem?_cons_zero, List.getElem?_cons_succ, List.getElem?_toArray, List.size_toArray, List.length_cons, List.length_nil, true_and, Nat.zero_add, Int.reduceNeg, List.extract_toArray, List.extract_eq_take_drop, List.drop_zero, List.drop_succ_cons, List.take_zero, List.take_succ_cons, Nat.sub_zero, Nat.reduceSub, y4, x4]
        refine mv w4 _ hm14 ?_
        intro w5 hm5 hA5
        rw [hmv]
        simp only [vc_ret, vcOps_nil, vcOps_cons, goL_apply, thenQ_normal, thenQ_ret, blockQ_ret, upd_same, upd_other, updO_some, ev_tmp, endQ_ret, endK, resK, packed, insVc, loadV_some, iopK, iopV, ne_eq, not_false_eq_true, Nat.reduceEqDiff, reduceCtorEq, List.nil_append, List.cons_append, true_and, or_false, Int.reduceNeg, e0t]
        exact fin w4 w5 v4 c' map' hm14 ((shelf sb mb h0).keep0 hAt hm14) hm5 hA5 (by rw [hmv]; exact hB4) hr' hc'
      · have b1 : (e2 == 0) = false := by simpa using he
        rw [if_neg he] at hmv
        simp only [vc_skip, vc_seq, vc_cond, vc_ops, vcOps_nil, vcOps_cons, goL_apply, thenQ_normal, condP_false, upd_same, upd_other, updO_some, updO_none, ev_tmp, ev_const, initE_at, insVc, loadV_some, loadNK, storeNK, storeNO_cells, setMany, iopK, iopV, extK, isPlain, Value.cells, ne_eq, not_false_eq_true, Nat.reduceEqDiff, Nat.reduceAdd, Nat.reduceLeDiff, reduceCtorEq, Option.getD_some, List.getElem?_cons_zero, List.getElem?_cons_succ, List.getElem?_toArray, List.size_toArray, List.length_cons, List.length_nil, List.setIfInBounds_toArray, List.set_cons_zero, List.set_cons_succ, true_and, or_false, and_self, Nat.zero_add, Bool.and_true, Int.reduceNeg, List.all_toArray', List.all_cons, List.all_nil, get_alloc_new, Ms.val, Ms.cells, b1]
        rw [← hw3]
        simp only [vcOps_cons, goL_apply, upd_same, upd_other, updO_some, ev_tmp, insVc, loadNK, loadNO_cells, faddrK, ne_eq, not_false_eq_true, Nat.reduceEqDiff, Nat.reduceAdd, Nat.reduceLeDiff, List.map_cons, List.map_nil, List.size_toArray, List.length_cons, List.length_nil, true_and, Nat.zero_add, Int.reduceNeg, List.extract_toArray, List.extract_eq_take_drop, List.drop_zero, List.drop_succ_cons, List.take_zero, List.take_succ_cons, Nat.sub_zero, Nat.reduceSub, y3, x3]
        refine mv w3 _ hm13 ?_
        intro w5 hm5 hA5
        rw [hmv]
        simp only [vc_ret, vcOps_nil, vcOps_cons, goL_apply, thenQ_normal, thenQ_ret, blockQ_ret, upd_same, upd_other, updO_some, ev_tmp, endQ_ret, endK, resK, packed, insVc, loadV_some, iopK, iopV, ne_eq, not_false_eq_true, Nat.reduceEqDiff, reduceCtorEq, List.nil_append, List.cons_append, true_and, or_false, Int.reduceNeg, e0t]
        exact fin w3 w5 v2 c' map' hm13 ((shelf sb mb h0).keep0 hAt hm13) hm5 hA5 (by rw [hmv]; exact hB2.keep hm3) hr' hc'
  by_cases k4 : a.act.tmod 5 = 4 ∨ a.act.tmod 5 = -4
  · have hdo : doR a B = notL a.m.queue B := by unfold doR; rw [if_neg k1, if_neg k2, if_neg k3, if_pos k4]
    rw [hdo] at fin
    obtain ⟨⟨sa, scp, rfl⟩, hat⟩ := id hv
    rcases k4 with k4 | k4
    all_goals
      simp only [vc_skip, vc_seq, vc_cond, vc_block, vc_ops, vcOps_nil, vcOps_cons, goL_apply, thenQ_normal, condP_true, condP_false, upd_same, upd_other, updO_some, updO_none, ev_tmp, ev_const, initE_at, insVc, load1K, loadO_cells, loadV_some, loadNK, loadNO_cells, storeNK, storeNO_cells, setMany, iopK, iopV, faddrK, isPlain, Value.cells, ne_eq, not_false_eq_true, Nat.reduceEqDiff, Nat.reduceAdd, Nat.reduceLeDiff, reduceCtorEq, Option.getD_some, List.map_cons, List.map_nil, List.getElem?_cons_zero, List.getElem?_cons_succ, List.getElem?_toArray, List.size_toArray, List.length_cons, List.length_nil, List.setIfInBounds_toArray, List.set_cons_zero, List.set_cons_succ, List.nil_append, List.cons_append, true_and, and_true, or_false, and_self, if_true, if_false, Nat.zero_add, Nat.add_zero, Bool.and_true, Int.reduceNeg, Int.reduceEq, Int.reduceBEq, List.extract_toArray, List.extract_eq_take_drop, List.drop_zero, List.drop_succ_cons, List.take_zero, List.take_succ_cons, Nat.reduceSub, List.all_toArray', List.all_cons, List.all_nil, size_alloc, get_set_same, Nat.lt_add_one, Ac.val, Ac.cells, Ms.cells, get_alloc, get_set, size_alloc, Nat.add_assoc, Nat.reduceAdd, Nat.add_eq_left, Nat.left_eq_add, Nat.reduceEqDiff, Nat.one_ne_zero, k4]
      rw [← hw1]
      refine rfrom_c B a.m.queue 0 _ w1 _ hB1 (by omega) ?_
      intro w2 v2 hm2 hB2
      obtain ⟨⟨a2, cp2, rfl⟩, _⟩ := hB2
      have y2 := hm2.keep y1 id
      have hm12 := hm1.trans hm2
      simp only [vc_seq, vc_block, vc_ops, vcOps_nil, vcOps_cons, goL_apply, thenQ_normal, upd_same, upd_other, updO_some, ev_tmp, ev_const, initE_at, insVc, lenLK, ne_eq, not_false_eq_true, Nat.reduceEqDiff, Option.getD_some, List.getElem?_cons_zero, List.getElem?_cons_succ, Int.reduceNeg]
      refine vc_loop (fun mm ρ ds u => ∃ i v', i ≤ B.length ∧ mm = B.length - i ∧ ds = [] ∧ ρ 0 = .iface 26 (ptr sb) ∧ ρ 8 = .pointer (some ⟨w.heap.size + 1, 0, none⟩) ∧ ρ 19 = .int .i64 (fromL a.m.queue 0 B).length ∧ ρ 20 = v' ∧ ρ 116 = .slice sa B.length scp ∧ ρ 117 = .int .i64 B.length ∧ ρ 118 = .int .i64 i ∧
        Mod (fun _ => False) w2 u ∧ u.ownsRow w2.heap.size 49 5 v' (notL a.m.queue (B.take i)).length ((notL a.m.queue (B.take i)).flatMap Ms.cells) ∧ (notL a.m.queue (B.take i)).length ≤ i) (B.length - 0) ?_ ?_
      · exact ⟨0, _, Nat.zero_le _, rfl, rfl, by simp only [upd_other, initE_at, ne_eq, not_false_eq_true, reduceCtorEq, Option.getD_some, List.getElem?_cons_zero, Int.reduceNeg], by simp only [upd_same, upd_other, ne_eq, not_false_eq_true, Nat.reduceEqDiff, Int.reduceNeg], by simp only [upd_same, upd_other, ne_eq, not_false_eq_true, Nat.reduceEqDiff, Int.reduceNeg], by simp only [upd_same, upd_other, ne_eq, not_false_eq_true, Nat.reduceEqDiff, Int.reduceNeg], by simp only [upd_same, upd_other, ne_eq, not_false_eq_true, Nat.reduceEqDiff, Int.reduceNeg], by simp only [upd_same, upd_other, ne_eq, not_false_eq_true, Nat.reduceEqDiff, Int.reduceNeg], by simp only [upd_same, Int.reduceNeg]; rfl, Mod.refl _ _, World.ownsRow_nil _ _ _ 5, by simp [notL]⟩
      · rintro mm ρ ds u ⟨i, v', hi, rfl, rfl, r0', r8', r19', r20', r116', r117', r118', hmu, hown, hacc⟩
        have hob : ∀ k, v'.ownBlock = some k → w2.heap.size ≤ k ∧ k < u.heap.size := fun k hk => World.ownsRow.lt hown k hk
        have yu := hmu.keep y2 id
        have hmwu := hm12.trans hmu
        by_cases c1 : i < B.length
        · have d1 : (i : Int) < ((B.length : Nat) : Int) := by omega
          obtain ⟨x, hxi⟩ : ∃ x, B[i]? = some x := ⟨B[i], List.getElem?_eq_getElem c1⟩
          obtain ⟨b, o, cc, cur, t, f, he, hb, hsz, hex⟩ := hat i x hxi
          have hbu := hmwu.keep hb id
          have ha : sa = some ⟨b, o, none⟩ := by simpa using congrArg (fun x => match x with | .slice a _ _ => a | _ => none) he
          subst ha
          have hi0 : (0 : Int) ≤ (i : Int) ∧ (i : Int) < ((B.length : Nat) : Int) := by omega
          have hwi : IntKind.i64.wrap ((i : Int) + 1) = ((i + 1 : Nat) : Int) := by rw [wrap_i64 _ (by omega)]; omega
          have htk := notL_snoc a.m.queue (B.take i) x
          have hte : B.take i ++ [x] = B.take (i + 1) := by rw [List.take_add_one, hxi]; rfl
          rw [hte] at htk
          obtain ⟨u1, hu1⟩ : ∃ u1, u1 = Vc.set (u.alloc (.cells #[.string ⟨#[]⟩, .int .u64 0, .int .u32 0, .int .u64 0, .string ⟨#[]⟩] 49)) u.heap.size (.cells #[.string x.queue, .int .u64 x.id, .int .u32 x.tries, .int .u64 x.expiry, .string x.body] 49) := ⟨_, rfl⟩
          have hmu1 : Mod (fun _ => False) u u1 := by rw [hu1]; exact ((Mod.refl _ _).alloc _).set (.inl (Nat.le_refl _))
          have px1 : u1.heap[u.heap.size]? = some (.cells #[.string x.queue, .int .u64 x.id, .int .u32 x.tries, .int .u64 x.expiry, .string x.body] 49 (0, 0)) := by rw [hu1]; exact get_set_same _ _ _ (by simp only [size_alloc]; omega)
          have yu1 := hmu1.keep yu id
          have hown1 := own_keep' hown hmu1 (fun _ _ x => x)
          simp only [vc_skip, vc_seq, vc_cond, vc_block, vc_ops, vcOps_nil, vcOps_cons, goL_apply, thenQ_normal, condP_true, upd_same, upd_other, updO_some, updO_none, ev_tmp, insVc, load1K, loadO_cells, loadV_some, loadNK, loadNO_cells, storeNK, storeNO_cells, setMany, iopK, iopV, faddrK, iaddrK, isPlain, Value.cells, ne_eq, not_false_eq_true, Nat.reduceEqDiff, Nat.reduceAdd, Nat.reduceLeDiff, reduceCtorEq, List.getElem?_cons_zero, List.getElem?_toArray, List.size_toArray, List.length_cons, List.length_nil, List.setIfInBounds_toArray, List.set_cons_zero, List.set_cons_succ, true_and, or_false, and_self, Nat.zero_add, Nat.add_zero, decide_true, Bool.and_true, Int.toNat_natCast, List.all_toArray', List.all_cons, List.all_nil, size_alloc, get_alloc_new, get_set_same, Nat.lt_add_one, r8', r116', r117', r118', d1, hi0, hbu, hsz, hex, Ms.cells]
          rw [← hu1]
          by_cases hq : x.queue = a.m.queue
          · have q1 : (!(x.queue.toList == a.m.queue.toList)) = false := by simp [hq]
            rw [if_neg (by simpa using hq), List.append_nil] at htk
            simp only [vc_skip, vc_cond, vc_ops, vcOps_nil, vcOps_cons, goL_apply, thenQ_normal, blockQ_normal, condP_false, upd_same, upd_other, updO_some, ev_tmp, ev_const, insVc, loadO_cells, loadV_some, iopK, iopV, sopK, sopV, ne_eq, not_false_eq_true, Nat.reduceEqDiff, reduceCtorEq, List.getElem?_cons_zero, List.getElem?_toArray, true_and, or_false, yu1, r0', r8', r19', r20', r116', r117', r118', q1, hwi]
            refine ⟨B.length - (i + 1), by omega, i + 1, v', by omega, rfl, rfl, rfl, hmu.trans hmu1, ?_, by rw [htk]; omega⟩
            rw [htk]; exact hown1
          · have q0 : (x.queue.toList == a.m.queue.toList) = false := by
              rw [beq_eq_false_iff_ne, ByteArray.toList_eq, ByteArray.toList_eq]
              intro e
              exact hq (ByteArray.ext (Array.ext' e))
            have q1 : (!(x.queue.toList == a.m.queue.toList)) = true := by rw [q0]; rfl
            rw [if_pos hq] at htk
            simp only [vc_cond, vc_ops, vcOps_nil, vcOps_cons, goL_apply, thenQ_normal, condP_true, upd_same, upd_other, updO_some, ev_tmp, insVc, loadO_cells, loadV_some, loadNK, loadNO_cells, sopK, sopV, fillL, buildSK, Value.cells, ne_eq, not_false_eq_true, Nat.reduceEqDiff, Nat.reduceAdd, Nat.reduceLeDiff, List.getElem?_cons_zero, List.getElem?_toArray, List.size_toArray, List.length_cons, List.length_nil, List.zipIdx_cons, List.zipIdx_nil, List.foldl_cons, List.foldl_nil, List.setIfInBounds_toArray, List.set_cons_zero, List.set_cons_succ, List.toList_toArray, true_and, and_self, if_true, Nat.zero_add, List.extract_toArray, List.extract_eq_take_drop, List.drop_zero, List.take_zero, List.take_succ_cons, Nat.sub_zero, px1, yu1, r20', q1]
            obtain ⟨v5, w5, hr5, ho5, hm5, hb5⟩ := append_bx 50 (by kernel_rfl) w2.heap.size v' (notL a.m.queue (B.take i)) x u1 hown1 (by have := hmu.size; have := hmu1.size; omega) (by omega) 50
            refine rawK_append rfl rfl rfl (by simp only [upd_same, upd_other, ev_tmp, ne_eq, not_false_eq_true, Nat.reduceEqDiff]; exact hr5) ?_
            simp only [vc_ops, vcOps_nil, vcOps_cons, goL_apply, thenQ_normal, blockQ_normal, upd_same, upd_other, updO_some, ev_tmp, ev_const, insVc, loadV_some, iopK, iopV, ne_eq, not_false_eq_true, Nat.reduceEqDiff, reduceCtorEq, true_and, or_false, r0', r8', r19', r116', r117', r118', hwi]
            refine ⟨B.length - (i + 1), by omega, i + 1, v5, by omega, rfl, rfl, rfl, (hmu.trans hmu1).then hm5 (fun k hk x => by have := hob k x; omega), ?_, by rw [htk, List.length_append]; simp only [List.length_cons, List.length_nil]; omega⟩
            rw [htk]; exact ho5
        · have d1 : ¬ (i : Int) < ((B.length : Nat) : Int) := by omega
          have hie : i = B.length := by omega
          rw [hie, List.take_length] at hown
          have hAu := (shelf sb mb h0).keep0 hAt hmwu
          obtain ⟨map', e, hr'⟩ := clear_shelf sb mb h0 c map B a.m.queue hr
          have hls := list_shelf sb mb h0 c hr a.m.queue 0 (by decide)
          have hll : ((shelf sb mb h0).listRows (c, map) a.m.queue 0).length ≤ B.length := by
            rw [hls, List.length_map]
            exact List.length_filter_le _ _
          simp only [vc_seq, vc_cond, vc_exit, vc_ops, vcOps_nil, vcOps_cons, goL_apply, thenQ_normal, thenQ_exit, blockQ_same, condP_false, upd_same, upd_other, updO_some, ev_tmp, insVc, load1K, loadO_cells, loadV_some, iopK, iopV, faddrK, ne_eq, not_false_eq_true, Nat.reduceEqDiff, reduceCtorEq, List.map_cons, List.map_nil, List.getElem?_cons_zero, List.getElem?_toArray, true_and, or_false, Nat.add_zero, decide_false, r0', r8', r117', r118', d1, yu]
          refine mclear_c (shelfC sb mb h0) (c, map) (pure_shelf sb mb h0 (c, map) hml) a.m.queue m u _ hAu (hg.mod hmwu id) (by have := hmwu.size; omega) (by omega) ?_ (show ((shelf sb mb h0).listRows (c, map) a.m.queue 0).length < 2 ^ 20 by omega) ?_ ?_
          · intro r hr1
            obtain ⟨p, hp, rfl⟩ := List.mem_map.1 hr1
            exact hr.vals p (List.mem_filter.1 hp).1
          · intro r hr1
            have hr1 : r ∈ (shelf sb mb h0).listRows (c, map) a.m.queue 0 := hr1
            rw [hls] at hr1
            obtain ⟨y, hy, rfl⟩ := List.mem_map.1 hr1
            have hyf := hr.fit y (from_mem.1 hy).1
            exact ⟨by have := hyf.qsize; show y.queue.size < _; omega, hyf.2.1, hyf.2.2.1⟩
          · intro w5 hm5 hA5
            have e : (shelfC sb mb h0).mclear (c, map) ((shelfC sb mb h0).toSto.listRows (c, map) a.m.queue 0) = (((fromL a.m.queue 0 B).length, 0), (c, map')) := e
            rw [e] at hA5 ⊢
            simp only [vc_seq, vc_ret, vc_ops, vcOps_nil, vcOps_cons, vcOps_gate, gateK_true, gate_true, goL_apply, thenQ_normal, thenQ_ret, blockQ_ret, upd_same, upd_other, updO_some, ev_tmp, ev_const, endQ_ret, endK, resK, packed, insVc, pickK, loadV_some, iopK, iopV, extK, ne_eq, not_false_eq_true, Nat.reduceEqDiff, reduceCtorEq, List.getElem?_cons_zero, List.getElem?_cons_succ, List.getElem?_toArray, List.nil_append, List.cons_append, true_and, or_false, if_true, e0t, r19', r20']
            exact fin u w5 v' c map' hmwu hAu hm5 hA5 (IsBx.own hown) hr' (by omega)
  have k5 : a.act.tmod 5 = 0 := by omega
  have hdo : doR a B = (addR a.m B).1 := by unfold doR; rw [if_neg k1, if_neg k2, if_neg k3, if_neg k4]
  rw [hdo] at fin
  simp only [vc_skip, vc_seq, vc_cond, vc_block, vc_ops, vcOps_nil, vcOps_cons, goL_apply, thenQ_normal, blockQ_normal, condP_false, upd_same, upd_other, updO_some, updO_none, ev_tmp, ev_const, initE_at, insVc, load1K, loadO_cells, loadV_some, loadNK, loadNO_cells, storeNK, storeNO_cells, setMany, iopK, iopV, faddrK, isPlain, Value.cells, ne_eq, not_false_eq_true, Nat.reduceEqDiff, Nat.reduceAdd, Nat.reduceLeDiff, reduceCtorEq, Option.getD_some, List.map_cons, List.map_nil, List.getElem?_cons_zero, List.getElem?_cons_succ, List.getElem?_toArray, List.size_toArray, List.length_cons, List.length_nil, List.setIfInBounds_toArray, List.set_cons_zero, List.set_cons_succ, List.nil_append, List.cons_append, true_and, and_true, or_false, and_self, if_true, if_false, Nat.zero_add, Nat.add_zero, Bool.and_true, Int.reduceNeg, Int.reduceEq, Int.reduceBEq, List.extract_toArray, List.extract_eq_take_drop, List.drop_zero, List.drop_succ_cons, List.take_zero, List.take_succ_cons, Nat.sub_zero, Nat.reduceSub, List.all_toArray', List.all_cons, List.all_nil, size_alloc, get_set_same, Nat.lt_add_one, Ac.val, Ac.cells, Ms.cells, get_alloc, get_set, size_alloc, Nat.add_assoc, Nat.reduceAdd, Nat.add_eq_left, Nat.left_eq_add, Nat.reduceEqDiff, Nat.one_ne_zero, k5]
  rw [← hw1]
  refine radd_c B a.m v w1 _ hB1 (by omega) (by omega) am1 am2 ?_
  intro w2 v2 hm2 hB2
  have y2 := hm2.keep y1 id
  have hm12 := hm1.trans hm2
  have hA2 := (shelf sb mb h0).keep0 hAt hm12
  simp only [vc_seq, vc_ops, vcOps_nil, vcOps_cons, goL_apply, thenQ_normal, upd_same, upd_other, updO_some, ev_tmp, initE_at, insVc, loadV_some, loadNK, loadNO_cells, extK, ne_eq, not_false_eq_true, Nat.reduceEqDiff, Nat.reduceAdd, Nat.reduceLeDiff, reduceCtorEq, Option.getD_some, List.map_cons, List.map_nil, List.getElem?_cons_zero, List.getElem?_cons_succ, List.getElem?_toArray, List.size_toArray, List.length_cons, List.length_nil, true_and, Nat.zero_add, List.extract_toArray, List.extract_eq_take_drop, List.drop_zero, List.take_zero, List.take_succ_cons, Nat.sub_zero, y2]
  refine madd_c (shelf sb mb h0) (c, map) a.m m w2 _ hA2 (hg.mod hm12 id) (by omega) am1 hgood (show c < maxLen by omega) (fit_put sb mb h0 _ _ _ (show c + 1 < maxLen by omega)) (by have := hm2.size; omega) ?_
  intro w3 hm3 hA3
  obtain ⟨c', map', e, hc', hr'⟩ := add_shelf sb mb h0 c map B a.m hr ⟨am1, am2, am3, am4⟩
  rw [e] at hA3 ⊢
  simp only [vc_ret, vcOps_nil, vcOps_cons, goL_apply, thenQ_normal, upd_same, upd_other, updO_some, ev_tmp, endQ_ret, endK, resK, packed, insVc, loadV_some, iopK, iopV, ne_eq, not_false_eq_true, Nat.reduceEqDiff, reduceCtorEq, List.nil_append, List.cons_append, true_and, or_false, e0t]
  exact fin w2 w3 v2 c' map' hm12 hA2 hm3 hA3 hB2 hr' hc'
end Go.Oct
