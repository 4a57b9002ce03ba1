import Derived.Test.YtbkddpckkgbbmaaGreatDoorVoG
namespace Go.Oct
open Go Go.Vc Go.VrA
set_option maxRecDepth 100000

theorem qbytes_c (v : Value) (lo : Nat) (name : ByteArray) (q : Qu) (w : World) (K : Value → World → Prop) (hv : IsQ w lo v name) (hq : q.good)
    (h : ∀ w', Mod (fun _ => False) w w' → K (.string (qbytes q)) w') :
    Ok Proofs.Tryz.prog 60 #[v, q.val] w K := by
  obtain ⟨b1, b2, b3, rfl, _, _, _, h1, h2, h3⟩ := hv
  refine F60.enter (args := [_, q.val]) (by simp) ?_
  unfold c60 r60
  simp only [vc_skip, vc_seq, vc_cond, vc_ops, vcOps_nil, vcOps_cons, goL_apply, thenQ_normal, condP_false, upd_same, upd_other, updO_some, ev_tmp, ev_const, initE_at, insVc, load1K, loadO_cells, loadV_some, loadNK, loadNO_cells, nilOf, pnilK, faddrK, callvK, Value.cells, ne_eq, not_false_eq_true, Nat.reduceEqDiff, Nat.reduceAdd, Nat.reduceLeDiff, Bool.not_false, Option.getD_some, List.map_cons, List.map_nil, List.getElem?_cons_zero, List.getElem?_cons_succ, List.getElem?_toArray, List.size_toArray, List.length_cons, List.length_nil, List.nil_append, List.cons_append, true_and, if_true, if_false, Bool.false_eq_true, Nat.zero_add, Nat.add_zero, List.extract_toArray, List.extract_eq_take_drop, List.drop_zero, List.take_zero, List.take_succ_cons, Nat.sub_zero, size_alloc, get_alloc, size_alloc, Nat.reduceAdd, Nat.add_eq_left, Nat.left_eq_add, Nat.reduceEqDiff, Nat.one_ne_zero, Qu.val, Qu.cells]
  have hm0 : Mod (fun _ => False) w ((w.alloc (.cells #[.func (.func 181) #[] #[ptr b1], .func (.func 183) #[] #[ptr b2]] 131)).alloc (.cells #[.string q.name, .int .u32 q.most, .int .u64 q.ttl, .int .u32 q.tries, .string q.dead] 33)) := ((Mod.refl _ _).alloc _).alloc _
  refine qbytesf_c q b1 _ _ hq (hm0.keep h1 id) ?_
  intro w2 hm2
  simp only [vc_ret, vcOps_nil, vcOps_cons, goL_apply, thenQ_normal, upd_same, updO_some, ev_tmp, endQ_ret, endK, resK, packed, insVc, List.nil_append]
  exact h w2 (hm0.trans hm2)

theorem callK_gen {P : Program} {go : Value → World → Prop} {f : FuncId} {args : List Value} {w : World} (h : ∀ W, W = w → CallK P go f args W) : CallK P go f args w := h w rfl

abbrev zq : Array Value := #[.string ⟨#[]⟩, .int .u32 0, .int .u64 0, .int .u32 0, .string ⟨#[]⟩]

theorem qread_c (v : Value) (lo : Nat) (name s : ByteArray) (w : World) (K : Value → World → Prop) (hv : IsQ w lo v name) (hs : s.size < 2 ^ 60)
    (h : ∀ w', Mod (fun _ => False) w w' → K (.tuple #[(qread name s).1.val, .int .i64 (qread name s).2]) w') :
    Ok Proofs.Tryz.prog 53 #[v, .string s] w K := by
  obtain ⟨b1, b2, b3, rfl, _, _, _, h1, h2, h3⟩ := hv
  refine F53.enter (args := [_, .string s]) (by simp) ?_
  unfold c53 r53
  simp only [vc_skip, vc_seq, vc_cond, vc_ops, vcOps_nil, vcOps_cons, goL_apply, thenQ_normal, condP_false, upd_same, upd_other, updO_some, ev_tmp, ev_const, initE_at, insVc, load1K, loadO_cells, loadV_some, nilOf, pnilK, faddrK, Value.cells, ne_eq, not_false_eq_true, Nat.reduceEqDiff, Nat.reduceAdd, reduceCtorEq, Bool.not_false, Option.getD_some, List.map_cons, List.map_nil, List.getElem?_cons_zero, List.getElem?_cons_succ, List.getElem?_toArray, if_true, if_false, Bool.false_eq_true, Nat.zero_add, size_alloc, get_alloc, size_alloc, Nat.add_assoc, Nat.reduceAdd, Nat.left_eq_add, Nat.reduceEqDiff, Nat.one_ne_zero]
  refine over_c s _ _ ?_
  simp only [vc_seq, vc_ops, vcOps_nil, vcOps_cons, goL_apply, thenQ_normal, upd_same, upd_other, updO_some, ev_tmp, insVc, load1K, loadO_cells, loadV_some, faddrK, callvK, ne_eq, not_false_eq_true, Nat.reduceEqDiff, Nat.reduceAdd, reduceCtorEq, List.map_cons, List.map_nil, List.getElem?_cons_zero, List.getElem?_cons_succ, List.getElem?_toArray, List.nil_append, List.cons_append, if_true, if_false, Nat.zero_add, size_alloc, get_alloc, size_alloc, Nat.add_assoc, Nat.reduceAdd, Nat.left_eq_add, Nat.reduceEqDiff, Nat.one_ne_zero]
  have l1 := lt_of_get h1
  have l2 := lt_of_get h2
  have l3 := lt_of_get h3
  refine callK_gen ?_
  intro w1 hw1
  have hm0 : Mod (fun _ => False) w w1 := by rw [hw1]; exact ((((Mod.refl _ _).alloc _).alloc _).alloc _).alloc _
  have e1 : w1.heap[w.heap.size + 1]? = some (.cells zq 33 (0, 0)) := by rw [hw1]; simp only [Nat.reduceEqDiff, Nat.reduceAdd, if_true, if_false, size_alloc, get_alloc, size_alloc, Nat.add_assoc, Nat.reduceAdd, Nat.add_left_cancel_iff, Nat.add_eq_left, Nat.reduceEqDiff, Nat.one_ne_zero]
  have e2 : w1.heap[w.heap.size + 2]? = some (.cells zq 33 (0, 0)) := by rw [hw1]; simp only [Nat.reduceEqDiff, Nat.reduceAdd, reduceCtorEq, if_true, if_false, size_alloc, get_alloc, size_alloc, Nat.add_assoc, Nat.reduceAdd, Nat.add_left_cancel_iff, Nat.add_eq_left, Nat.reduceEqDiff]
  have e3 : IsRd w1 (w.heap.size + 3) (s, 0) := by unfold IsRd; rw [hw1]; simp only [Nat.reduceEqDiff, Nat.reduceAdd, reduceCtorEq, if_true, if_false, size_alloc, get_alloc, size_alloc, Nat.add_assoc, Nat.reduceAdd, Nat.add_left_cancel_iff, Nat.add_eq_left, Nat.reduceEqDiff]
  have hszx : w1.heap.size = w.heap.size + 4 := by rw [hw1]; simp only [Nat.reduceAdd, size_alloc, size_alloc, Nat.add_assoc, Nat.reduceAdd]
  clear hw1
  refine qgetf_c (w.heap.size + 3) b2 b3 name (s, 0) w1 _ e3 (hm0.keep h2 id) (hm0.keep h3 id) (by omega) (by omega) (by simpa using (by omega : (s.size : Int) < 2 ^ 63)) ?_
  intro w2 hm2 hb2
  have f1 := hm2.keep e1 (by omega)
  have f2 := hm2.keep e2 (by omega)
  have hm2' : Mod (fun _ => False) w w2 := hm0.then hm2 (fun i hi hk => by omega)
  have s2 := hm2.size
  have hr2 := lt_of_get hb2
  simp only [vc_seq, vc_ops, vcOps_nil, vcOps_cons, goL_apply, thenQ_normal, upd_same, upd_other, updO_some, updO_none, ev_tmp, insVc, storeNK, storeNO_cells, setMany, isPlain, Value.cells, ne_eq, not_false_eq_true, Nat.reduceEqDiff, Nat.reduceAdd, Nat.reduceLeDiff, List.map_cons, List.map_nil, List.size_toArray, List.length_cons, List.length_nil, List.setIfInBounds_toArray, List.set_cons_zero, List.set_cons_succ, true_and, and_self, Nat.zero_add, Bool.and_true, List.all_toArray', List.all_cons, List.all_nil, get_alloc_new, Qu.val, Qu.cells]
  refine callK_gen ?_
  intro w3 hw3
  have hm3 : Mod (fun _ => False) w2 w3 := by rw [hw3]; exact ((Mod.refl _ _).alloc _).set (.inl (Nat.le_refl _))
  have g0 : w3.heap[w2.heap.size]? = some (.cells (qget name (ver (s, 0))).1.cells.toArray 33 (0, 0)) := by rw [hw3]; simp only [size_alloc, get_set_same, Nat.lt_add_one, size_alloc, Qu.cells]
  clear hw3
  have g1 := hm3.keep f1 id
  have g2 := hm3.keep f2 id
  have gb : IsRd w3 (w.heap.size + 3) _ := hm3.keep hb2 id
  have hm3' := hm2'.trans hm3
  refine ende_c (w.heap.size + 3) _ w3 _ gb ?_
  simp only [vc_seq, vc_cond, vc_ops, vcOps_nil, vcOps_cons, goL_apply, thenQ_normal, upd_same, updO_some, ev_tmp, ev_const, insVc, loadV_some, iopK, iopV, reduceCtorEq, true_and, or_false]
  refine condP_split ?_ ?_
  · intro he
    have he' : ende (qget name (ver (s, 0))).2 ≠ 0 := by simpa using he
    have hq : qread name s = (q0, ende (qget name (ver (s, 0))).2) := by unfold qread; simp only []; rw [if_pos he']
    rw [hq] at h
    simp only [vc_seq, vc_ret, vc_ops, vcOps_nil, vcOps_cons, goL_apply, thenQ_normal, thenQ_ret, upd_same, upd_other, updO_some, updO_none, ev_tmp, endQ_ret, endK, resK, resN, resNO_cells, packed, insVc, loadNK, loadNO_cells, storeNK, storeNO_cells, setMany, isPlain, ne_eq, not_false_eq_true, Nat.reduceEqDiff, Nat.reduceAdd, Nat.reduceLeDiff, List.size_toArray, List.length_cons, List.length_nil, List.setIfInBounds_toArray, List.set_cons_zero, List.set_cons_succ, List.nil_append, List.cons_append, true_and, and_self, Nat.zero_add, Bool.and_true, List.extract_toArray, List.extract_eq_take_drop, List.drop_zero, List.take_zero, List.take_succ_cons, Nat.sub_zero, List.all_toArray', List.all_cons, List.all_nil, g2, g1, get_set_same _ _ _ (lt_of_get g1)]
    exact h _ (hm3'.set (.inl (by omega)))
  · intro he
    have he' : ende (qget name (ver (s, 0))).2 = 0 := by simpa using he
    have hq : qread name s = ((qget name (ver (s, 0))).1, 0) := by unfold qread; simp only []; rw [if_neg (by simpa using he')]
    rw [hq] at h
    simp only [vc_skip, vc_seq, vc_ret, vc_ops, vcOps_nil, vcOps_cons, goL_apply, thenQ_normal, upd_same, upd_other, updO_some, updO_none, ev_tmp, ev_const, endQ_ret, endK, resK, resN, resNO_cells, packed, insVc, loadNK, loadNO_cells, storeNK, storeNO_cells, setMany, isPlain, ne_eq, not_false_eq_true, Nat.reduceEqDiff, Nat.reduceAdd, Nat.reduceLeDiff, List.size_toArray, List.length_cons, List.length_nil, List.setIfInBounds_toArray, List.set_cons_zero, List.set_cons_succ, List.nil_append, List.cons_append, true_and, and_self, Nat.zero_add, Bool.and_true, List.extract_toArray, List.extract_eq_take_drop, List.drop_zero, List.take_zero, List.take_succ_cons, Nat.sub_zero, List.all_toArray', List.all_cons, List.all_nil, g0, g1, Qu.cells, get_set_same _ _ _ (lt_of_get g1)]
    exact h _ (hm3'.set (.inl (by omega)))

/-! ### counters -/

def cbytes (n : Nat) : ByteArray := big 1 1 ++ big n 8
def cread (s : ByteArray) : Nat × Int :=
  let x := number (ver (s, 0)) 8
  if ende x.2 ≠ 0 then (0, ende x.2) else (x.1, 0)

def IsC (w : World) (lo : Nat) (v : Value) : Prop :=
  ∃ b1 b2, v = .agg #[.func (.func 185) #[] #[ptr b1], .func (.func 186) #[] #[ptr b2]] ∧ lo ≤ b1 ∧ lo ≤ b2 ∧
    w.heap[b1]? = some (.cells #[.func (.func 124) #[] #[]] 136 (0, 0)) ∧
    w.heap[b2]? = some (.cells #[.func (.func 19) #[] #[]] 137 (0, 0))

theorem counters_c (w : World) (K : Value → World → Prop) (h : ∀ w' v, Mod (fun _ => False) w w' → IsC w' w.heap.size v → K v w') :
    Ok Proofs.Tryz.prog 54 #[] w K := by
  refine F54.enter (args := []) (by simp) ?_
  unfold c54 r54
  simp only [vc_seq, vc_ops, vcOps_nil, vcOps_cons, goL_apply, thenQ_normal, updO_some, ev_func, insVc, Value.cells, List.map_cons, List.map_nil]
  refine F130.enter (args := [_, _]) (by simp) ?_
  unfold c130 r130
  simp only [vc_seq, vc_ret, vc_ops, vcOps_nil, vcOps_cons, goL_apply, thenQ_normal, upd_same, upd_other, updO_some, updO_none, ev_tmp, endQ_ret, endK, resK, resN, resNO_cells, packed, initE_at, insVc, storeNK, storeNO_cells, setMany, buildK, fillL, isPlain, Value.cells, ne_eq, not_false_eq_true, Nat.reduceEqDiff, Nat.reduceAdd, Nat.reduceLT, Nat.reduceLeDiff, reduceCtorEq, Option.getD_some, List.map_cons, List.map_nil, List.getElem?_cons_zero, List.getElem?_cons_succ, List.size_toArray, List.length_cons, List.length_nil, List.zipIdx_cons, List.zipIdx_nil, List.foldl_cons, List.foldl_nil, List.setIfInBounds_toArray, List.set_cons_zero, List.set_cons_succ, List.nil_append, List.toList_toArray, true_and, and_true, and_self, if_true, if_false, Nat.zero_add, Nat.add_zero, Bool.and_true, List.extract_toArray, List.extract_eq_take_drop, List.drop_zero, List.take_zero, List.take_succ_cons, Nat.sub_zero, List.all_toArray', List.all_cons, List.all_nil, size_set, size_alloc, get_set_same, Nat.lt_add_one, get_alloc, get_set, size_alloc, size_set, Nat.add_assoc, Nat.reduceAdd, Nat.add_left_cancel_iff, Nat.add_eq_left, Nat.left_eq_add, Nat.reduceEqDiff, Nat.lt_add_right_iff_pos, Nat.reduceLT, Nat.one_ne_zero]
  refine h _ _ ?_ ⟨w.heap.size + 1, w.heap.size + 2, rfl, ?_, ?_, ?_, ?_⟩
  · exact ((((((Mod.refl _ _).alloc _).alloc _).alloc _).alloc _).set (.inl (by omega))).set (.inl (by omega))
  · omega
  · omega
  · simp only [Nat.reduceEqDiff, Nat.reduceAdd, Nat.reduceLT, and_true, if_true, if_false, size_set, size_alloc, Nat.lt_add_one, get_alloc, get_set, size_alloc, size_set, Nat.add_assoc, Nat.reduceAdd, Nat.add_left_cancel_iff, Nat.add_eq_left, Nat.reduceEqDiff, Nat.lt_add_right_iff_pos, Nat.reduceLT, Nat.one_ne_zero]
  · simp only [Nat.reduceEqDiff, Nat.reduceAdd, Nat.reduceLT, reduceCtorEq, and_true, if_true, if_false, size_set, size_alloc, Nat.lt_add_one, get_alloc, get_set, size_alloc, size_set, Nat.add_assoc, Nat.reduceAdd, Nat.add_left_cancel_iff, Nat.add_eq_left, Nat.reduceEqDiff, Nat.lt_add_right_iff_pos, Nat.reduceLT]

theorem cbytes_c (v : Value) (lo : Nat) (n : Nat) (w : World) (K : Value → World → Prop) (hv : IsC w lo v) (hn : n < 2 ^ 64)
    (h : ∀ w', Mod (fun _ => False) w w' → K (.string (cbytes n)) w') :
    Ok Proofs.Tryz.prog 56 #[v, .int .u64 n] w K := by
  obtain ⟨b1, b2, rfl, _, _, h1, h2⟩ := hv
  refine F56.enter (args := [_, .int .u64 n]) (by simp) ?_
  unfold c56 r56
  simp only [vc_skip, vc_seq, vc_cond, vc_ops, vcOps_nil, vcOps_cons, goL_apply, thenQ_normal, condP_false, upd_same, upd_other, updO_some, ev_tmp, ev_const, initE_at, insVc, load1K, loadO_cells, loadV_some, nilOf, pnilK, faddrK, callvK, Value.cells, ne_eq, not_false_eq_true, Nat.reduceEqDiff, Bool.not_false, Option.getD_some, List.map_cons, List.map_nil, List.getElem?_cons_zero, List.getElem?_cons_succ, List.getElem?_toArray, List.nil_append, List.cons_append, if_true, if_false, Bool.false_eq_true, Nat.add_zero, get_alloc, Nat.reduceEqDiff]
  refine callK_gen ?_
  intro w1 hw1
  have hm0 : Mod (fun _ => False) w w1 := by rw [hw1]; exact (Mod.refl _ _).alloc _
  clear hw1
  have h1' := hm0.keep h1 id
  refine F185.enter (args := [.int .u64 n, ptr b1]) (by simp) ?_
  unfold c185 r185
  simp only [vc_seq, vc_ops, vcOps_nil, vcOps_cons, goL_apply, thenQ_normal, updO_some, ev_const, insVc]
  refine draw_d (fun w' => w'.heap[b1]? = some (.cells #[.func (.func 124) #[] #[]] 136 (0, 0))) (by kernel_rfl) (by kernel_rfl) (by kernel_rfl) (by kernel_rfl) h1' ?_
  simp only [vc_ret, vcOps_nil, vcOps_cons, goL_apply, thenQ_normal, upd_same, upd_other, updO_some, ev_tmp, ev_const, endQ_ret, endK, resK, packed, initE_at, insVc, sopK, sopV, callvK, ne_eq, not_false_eq_true, Nat.reduceEqDiff, reduceCtorEq, Option.getD_some, List.map_cons, List.map_nil, List.getElem?_cons_zero, List.nil_append, if_true, if_false, Bool.false_eq_true, pureI, vcD_nil, vcD_cons, stepD_pure, stepD_load, stepD_step, kindI, loadI]
  refine wone_c 1 _ _ (by decide) ?_
  intro w2 hm2
  refine ⟨hm2.keep h1' id, ?_⟩
  refine loadD1 (b := b1) (o := 0) (v := .func (.func 124) #[] #[]) rfl (fun w' hw' => ⟨_, _, _, hw', rfl⟩) ?_
  simp only [List.nil_append, List.append_nil]
  refine weight_c n w2 _ hn ?_
  intro w3 hm3
  refine ⟨hm3.keep (hm2.keep h1' id) id, ?_⟩
  have x1 : ¬ (((big 1 1).size + (big n 8).size : Nat) : Int) > IntKind.i64.max := by simp only [big_size, imax]; omega
  simp only [loadV_some, if_false, x1]
  exact h w3 ((hm0.drew.trans hm2).trans hm3)

theorem cread_c (v : Value) (lo : Nat) (s : ByteArray) (w : World) (K : Value → World → Prop) (hv : IsC w lo v) (hs : s.size < 2 ^ 60)
    (h : ∀ w', Mod (fun _ => False) w w' → K (.tuple #[.int .u64 ((cread s).1 : Nat), .int .i64 (cread s).2]) w') :
    Ok Proofs.Tryz.prog 55 #[v, .string s] w K := by
  obtain ⟨b1, b2, rfl, _, _, h1, h2⟩ := hv
  refine F55.enter (args := [_, .string s]) (by simp) ?_
  unfold c55 r55
  simp only [vc_skip, vc_seq, vc_cond, vc_ops, vcOps_nil, vcOps_cons, goL_apply, thenQ_normal, condP_false, upd_same, upd_other, updO_some, ev_tmp, ev_const, initE_at, insVc, load1K, loadO_cells, loadV_some, nilOf, pnilK, faddrK, Value.cells, ne_eq, not_false_eq_true, Nat.reduceEqDiff, Bool.not_false, Option.getD_some, List.map_cons, List.map_nil, List.getElem?_cons_zero, List.getElem?_cons_succ, List.getElem?_toArray, if_true, if_false, Bool.false_eq_true, Nat.zero_add, get_alloc, Nat.reduceEqDiff]
  refine over_c s _ _ ?_
  simp only [vc_seq, vc_ops, vcOps_nil, vcOps_cons, goL_apply, thenQ_normal, upd_same, upd_other, updO_some, ev_tmp, insVc, load1K, loadO_cells, loadV_some, faddrK, callvK, ne_eq, not_false_eq_true, Nat.reduceEqDiff, List.map_cons, List.map_nil, List.getElem?_cons_zero, List.getElem?_cons_succ, List.getElem?_toArray, List.nil_append, List.cons_append, if_true, if_false, Nat.zero_add, size_alloc, get_alloc, size_alloc, Nat.left_eq_add, Nat.reduceEqDiff, Nat.one_ne_zero]
  have l2 := lt_of_get h2
  refine callK_gen ?_
  intro w1 hw1
  have hm0 : Mod (fun _ => False) w w1 := by rw [hw1]; exact ((Mod.refl _ _).alloc _).alloc _
  have e3 : IsRd w1 (w.heap.size + 1) (s, 0) := by unfold IsRd; rw [hw1]; simp only [if_true, if_false, size_alloc, get_alloc, size_alloc, Nat.add_eq_left, Nat.one_ne_zero]
  clear hw1
  have h2' := hm0.keep h2 id
  have hsI : (s.size : Int) < 2 ^ 63 := by omega
  have hver := ver_size (s, 0)
  refine F186.enter (args := [ptr (w.heap.size + 1), ptr b2]) (by simp) ?_
  unfold c186 r186
  simp only [vc_seq, vc_ops, vcOps_nil, vcOps_cons, goL_apply, thenQ_normal, upd_same, upd_other, updO_some, ev_tmp, ev_const, initE_at, insVc, ne_eq, not_false_eq_true, reduceCtorEq, Option.getD_some, List.map_cons, List.map_nil, List.getElem?_cons_zero]
  refine one_c (w.heap.size + 1) (s, 0) w1 _ e3 hsI ?_
  intro w2 hm2 hb2
  simp only [vc_cond, vcOps_nil, vcOps_cons, goL_apply, thenQ_normal, upd_same, updO_some, ev_tmp, ev_const, insVc, loadV_some, iopK, iopV, reduceCtorEq, true_and, or_false]
  have main : ∀ w3, Mod (fun k => k = w.heap.size + 1) w2 w3 → IsRd w3 (w.heap.size + 1) (ver (s, 0)) → ∀ G : Value → World → Prop,
      (∀ w4, Mod (fun _ => False) w w4 → IsRd w4 (w.heap.size + 1) (number (ver (s, 0)) 8).2 → G (.int .u64 ((number (ver (s, 0)) 8).1 : Nat)) w4) → Ok Proofs.Tryz.prog 19 #[ptr (w.heap.size + 1)] w3 G := by
    intro w3 hm3 hb3 G hG
    refine eight_c (w.heap.size + 1) _ w3 G hb3 (by simp only [] at hver; omega) ?_
    intro w4 hm4 hb4
    exact hG w4 (((hm0.then hm2 (fun i hi hk => by omega)).then hm3 (fun i hi hk => by omega)).then hm4 (fun i hi hk => by omega)) hb4
  refine condP_split ?_ ?_
  · intro hc
    have hv : ver (s, 0) = fail (number (s, 0) 1).2 4 := by
      unfold ver; rw [if_pos]; simp at hc; omega
    simp only [vc_ops, vcOps_cons, goL_apply, upd_same, upd_other, updO_some, ev_tmp, ev_const, initE_at, insVc, ne_eq, not_false_eq_true, reduceCtorEq, Option.getD_some, List.map_cons, List.map_nil, List.getElem?_cons_zero]
    refine fail_c (w.heap.size + 1) _ 4 w2 _ hb2 ?_
    intro w3 v hm3 hb3
    simp only [vc_seq, vc_ops, vcOps_nil, vcOps_cons, goL_apply, thenQ_normal, upd_same, upd_other, updO_some, ev_tmp, initE_at, insVc, load1K, loadO_cells, loadV_some, callvK, ne_eq, not_false_eq_true, Nat.reduceEqDiff, reduceCtorEq, Option.getD_some, List.map_cons, List.map_nil, List.getElem?_cons_zero, List.getElem?_cons_succ, List.getElem?_toArray, List.nil_append, List.append_nil, hm3.keep (hm2.keep h2' (by omega)) (by omega)]
    refine main w3 hm3 (hv ▸ hb3) _ ?_
    intro w4 hm4 hb4
    simp only [vc_seq, vc_ret, vc_ops, vcOps_nil, vcOps_cons, goL_apply, thenQ_normal, upd_same, upd_other, updO_some, ev_tmp, endQ_ret, endK, resK, packed, insVc, ne_eq, not_false_eq_true, Nat.reduceEqDiff, List.map_cons, List.map_nil, List.nil_append]
    refine ende_c (w.heap.size + 1) _ w4 _ hb4 ?_
    simp only [vc_seq, vc_cond, vc_ops, vcOps_nil, vcOps_cons, goL_apply, thenQ_normal, upd_same, updO_some, ev_tmp, ev_const, insVc, loadV_some, iopK, iopV, reduceCtorEq, true_and, or_false]
    refine condP_split ?_ ?_
    · intro he
      have he' : ende (number (ver (s, 0)) 8).2 ≠ 0 := by simpa using he
      have hq : cread s = (0, ende (number (ver (s, 0)) 8).2) := by unfold cread; simp only []; rw [if_pos he']
      rw [hq] at h
      simp only [vc_seq, vc_ret, vc_ops, vcOps_nil, vcOps_cons, goL_apply, thenQ_normal, thenQ_ret, upd_same, upd_other, updO_some, ev_tmp, endQ_ret, endK, resK, packed, insVc, ne_eq, not_false_eq_true, Nat.reduceEqDiff, List.nil_append, List.cons_append]
      exact h w4 hm4
    · intro he
      have he' : ende (number (ver (s, 0)) 8).2 = 0 := by simpa using he
      have hq : cread s = ((number (ver (s, 0)) 8).1, 0) := by unfold cread; simp only []; rw [if_neg (by simpa using he')]
      rw [hq] at h
      simp only [vc_skip, vc_seq, vc_ret, vc_ops, vcOps_nil, vcOps_cons, goL_apply, thenQ_normal, upd_same, upd_other, updO_some, ev_tmp, ev_const, endQ_ret, endK, resK, packed, insVc, ne_eq, not_false_eq_true, Nat.reduceEqDiff, List.nil_append, List.cons_append]
      exact h w4 hm4
  · intro hc
    have hv : ver (s, 0) = (number (s, 0) 1).2 := by
      unfold ver; rw [if_neg]; simp at hc; omega
    simp only [vc_skip, vc_seq, vc_ops, vcOps_cons, goL_apply, thenQ_normal, upd_same, upd_other, updO_some, ev_tmp, initE_at, insVc, load1K, loadO_cells, loadV_some, callvK, ne_eq, not_false_eq_true, Nat.reduceEqDiff, reduceCtorEq, Option.getD_some, List.map_cons, List.map_nil, List.getElem?_cons_zero, List.getElem?_cons_succ, List.getElem?_toArray, List.nil_append, List.append_nil, hm2.keep h2' (by omega)]
    refine main w2 (Mod.refl _ _) (hv ▸ hb2) _ ?_
    intro w4 hm4 hb4
    simp only [vc_seq, vc_ret, vc_ops, vcOps_nil, vcOps_cons, goL_apply, thenQ_normal, upd_same, upd_other, updO_some, ev_tmp, endQ_ret, endK, resK, packed, insVc, ne_eq, not_false_eq_true, Nat.reduceEqDiff, List.map_cons, List.map_nil, List.nil_append]
    refine ende_c (w.heap.size + 1) _ w4 _ hb4 ?_
    simp only [vc_seq, vc_cond, vc_ops, vcOps_nil, vcOps_cons, goL_apply, thenQ_normal, upd_same, updO_some, ev_tmp, ev_const, insVc, loadV_some, iopK, iopV, reduceCtorEq, true_and, or_false]
    refine condP_split ?_ ?_
    · intro he
      have he' : ende (number (ver (s, 0)) 8).2 ≠ 0 := by simpa using he
      have hq : cread s = (0, ende (number (ver (s, 0)) 8).2) := by unfold cread; simp only []; rw [if_pos he']
      rw [hq] at h
      simp only [vc_seq, vc_ret, vc_ops, vcOps_nil, vcOps_cons, goL_apply, thenQ_normal, thenQ_ret, upd_same, upd_other, updO_some, ev_tmp, endQ_ret, endK, resK, packed, insVc, ne_eq, not_false_eq_true, Nat.reduceEqDiff, List.nil_append, List.cons_append]
      exact h w4 hm4
    · intro he
      have he' : ende (number (ver (s, 0)) 8).2 = 0 := by simpa using he
      have hq : cread s = ((number (ver (s, 0)) 8).1, 0) := by unfold cread; simp only []; rw [if_neg (by simpa using he')]
      rw [hq] at h
      simp only [vc_skip, vc_seq, vc_ret, vc_ops, vcOps_nil, vcOps_cons, goL_apply, thenQ_normal, upd_same, upd_other, updO_some, ev_tmp, ev_const, endQ_ret, endK, resK, packed, insVc, ne_eq, not_false_eq_true, Nat.reduceEqDiff, List.nil_append, List.cons_append]
      exact h w4 hm4

end Go.Oct
