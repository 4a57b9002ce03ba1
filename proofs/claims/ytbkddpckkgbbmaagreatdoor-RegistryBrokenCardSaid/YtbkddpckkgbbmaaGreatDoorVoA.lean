import Derived.Test.YtbkddpckkgbbmaaGreatDoorVrA
import Derived.Test.YtbkddpckkgbbmaaGreatDoorVsOct
namespace Go.Oct
open Go Go.Vc Go.VrA

abbrev ptr (b : Nat) : Value := .pointer (some ⟨b, 0, none⟩)
def IsRd (w : World) (b : Nat) (r : Rd) : Prop := w.heap[b]? = some (.cells #[.string r.1, .int .i64 r.2] 145 (0, 0))

theorem over_c (s : ByteArray) (w : World) (K : Value → World → Prop) (h : K (ptr w.heap.size) (w.alloc (.cells #[.string s, .int .i64 0] 145))) :
    Ok Proofs.Tryz.prog 17 #[.string s] w K := by
  refine F17.enter (args := [.string s]) (by simp) ?_
  unfold c17 r17
  simp only [vc_seq, vc_ret, vc_ops, vcOps_nil, vcOps_cons, goL_apply, thenQ_normal, upd_same, upd_other, updO_some, ev_tmp, ev_const, endQ_ret, endK, resK, packed, initE_at, insVc, buildK, fillL, Value.cells, ne_eq, not_false_eq_true, Nat.reduceAdd, Nat.reduceLeDiff, reduceCtorEq, Option.getD_some, List.getElem?_cons_zero, List.size_toArray, List.length_cons, List.length_nil, List.zipIdx_cons, List.zipIdx_nil, List.foldl_cons, List.foldl_nil, List.setIfInBounds_toArray, List.set_cons_zero, List.nil_append, List.toList_toArray, and_self, if_true, Nat.zero_add]
  exact h

theorem take_c (b : Nat) (r : Rd) (n : Int) (w : World) (K : Value → World → Prop) (hb : IsRd w b r)
    (h : ∀ w', Mod (fun k => k = b) w w' → IsRd w' b (take r n).2 → K (.string (take r n).1) w') :
    Ok Proofs.Tryz.prog 18 #[ptr b, .int .i64 n] w K := by
  refine F18.enter (args := [ptr b, .int .i64 n]) (by simp) ?_
  unfold c18 r18
  have hlt := lt_of_get hb
  unfold IsRd at hb h
  simp only [vc_seq, vc_cond, vc_ops, vcOps_nil, vcOps_cons, vcOps_gate, gateK_true, gate_false, goL_apply, thenQ_normal, upd_same, upd_other, updO_some, ev_tmp, ev_const, initE_at, insVc, pickK, load1K, loadO_cells, loadV_some, nilK, iopK, iopV, nilOf, pnilK, faddrK, ne_eq, not_false_eq_true, Nat.reduceEqDiff, reduceCtorEq, Bool.not_false, Option.getD_some, List.getElem?_cons_zero, List.getElem?_cons_succ, List.getElem?_toArray, true_and, or_false, if_false, Bool.false_eq_true, Nat.zero_add, Option.isNone_some, hb]
  refine condP_split ?_ ?_
  · intro he
    have he' : r.2 ≠ 0 := by simpa using he
    simp only [vc_seq, vc_ret, vc_ops, vcOps_nil, vcOps_cons, goL_apply, thenQ_normal, thenQ_ret, upd_same, updO_some, ev_const, endQ_ret, endK, resK, packed, insVc, List.nil_append]
    have ht : take r n = (e0, r) := by simp [take, he']
    rw [ht] at h
    exact h w (Mod.refl _ _) hb
  · intro he
    have he' : r.2 = 0 := by simpa using he
    simp only [vc_skip, vc_seq, vc_ops, vcOps_cons, vcOps_gate, gate_false, goL_apply, thenQ_normal, upd_same, upd_other, updO_some, ev_tmp, ev_const, initE_at, insVc, loadV_some, iopK, iopV, ne_eq, not_false_eq_true, Nat.reduceEqDiff, reduceCtorEq, Option.getD_some, List.getElem?_cons_zero, List.getElem?_cons_succ, true_and, or_false]
    by_cases h1 : n < 0
    · have ht : take r n = (e0, (r.1, 3)) := by simp [take, he', h1]
      rw [ht] at h
      simp only [vc_seq, vc_cond, vc_ret, vc_ops, vcOps_nil, vcOps_cons, vcOps_gate, gateK_false, gate_false, goL_apply, thenQ_normal, thenQ_ret, condP_true, upd_same, upd_other, updO_some, updO_none, ev_tmp, ev_const, endQ_ret, endK, resK, packed, initE_at, insVc, pickK, storeK, storeO_cells, nilK, faddrK, isPlain, ne_eq, not_false_eq_true, Nat.reduceEqDiff, Nat.reduceAdd, Nat.reduceLT, Nat.reduceLeDiff, reduceCtorEq, Bool.not_true, Option.getD_some, List.getElem?_cons_zero, List.size_toArray, List.length_cons, List.length_nil, List.setIfInBounds_toArray, List.set_cons_zero, List.set_cons_succ, List.nil_append, true_and, and_self, if_true, Nat.zero_add, decide_true, decide_false, Bool.and_false, Nat.lt_add_one, h1, hb]
      exact h _ ((Mod.refl _ _).set (.inr rfl)) (get_set_same _ _ _ hlt)
    · simp only [vc_cond, vcOps_nil, vcOps_cons, vcOps_gate, gateK_true, gate_false, goL_apply, thenQ_normal, upd_same, upd_other, updO_some, ev_tmp, ev_const, initE_at, insVc, pickK, load1K, loadO_cells, loadV_some, nilK, iopK, iopV, faddrK, lenSK, ne_eq, not_false_eq_true, Nat.reduceEqDiff, reduceCtorEq, Bool.not_false, Option.getD_some, List.getElem?_cons_zero, List.getElem?_cons_succ, List.getElem?_toArray, true_and, or_false, if_false, Bool.false_eq_true, Nat.add_zero, decide_false, h1, hb]
      by_cases h2 : n > r.1.size
      · have ht : take r n = (e0, (r.1, 3)) := by simp [take, he', h2]
        rw [ht] at h
        simp only [vc_seq, vc_ret, vc_ops, vcOps_nil, vcOps_cons, goL_apply, thenQ_normal, thenQ_ret, condP_true, upd_same, upd_other, updO_some, updO_none, ev_tmp, ev_const, endQ_ret, endK, resK, packed, initE_at, insVc, storeK, storeO_cells, nilK, faddrK, isPlain, ne_eq, not_false_eq_true, Nat.reduceAdd, Nat.reduceLT, Nat.reduceLeDiff, reduceCtorEq, Option.getD_some, List.getElem?_cons_zero, List.size_toArray, List.length_cons, List.length_nil, List.setIfInBounds_toArray, List.set_cons_zero, List.set_cons_succ, List.nil_append, true_and, and_self, Nat.zero_add, decide_true, decide_false, Bool.and_false, Nat.lt_add_one, h2, hb]
        exact h _ ((Mod.refl _ _).set (.inr rfl)) (get_set_same _ _ _ hlt)
      · have ht : take r n = (r.1.extract 0 n.toNat, (r.1.extract n.toNat r.1.size, r.2)) := by simp [take, he', h1, h2]
        rw [ht] at h
        simp only [vc_skip, vc_seq, vc_ret, vc_ops, vcOps_nil, vcOps_cons, goL_apply, thenQ_normal, condP_false, upd_same, upd_other, updO_some, updO_none, ev_tmp, endQ_ret, endK, resK, packed, initE_at, insVc, load1K, loadO_cells, loadV_some, storeK, storeO_cells, nilK, faddrK, boundOf, slSK, isPlain, ne_eq, not_false_eq_true, Nat.reduceEqDiff, Nat.reduceAdd, Nat.reduceLT, Nat.reduceLeDiff, reduceCtorEq, Option.map_some, Option.map_none, Option.getD_some, List.getElem?_cons_zero, List.getElem?_cons_succ, List.getElem?_toArray, List.size_toArray, List.length_cons, List.length_nil, List.setIfInBounds_toArray, List.set_cons_zero, List.nil_append, true_and, and_self, Nat.zero_add, Nat.add_zero, decide_true, decide_false, Bool.and_false, Int.toNat_natCast, h2, hb]
        refine ⟨by omega, by omega, ?_⟩
        exact h _ ((Mod.refl _ _).set (.inr rfl)) (by simpa using get_set_same _ _ _ hlt)

theorem number_c (b : Nat) (r : Rd) (n : Int) (w : World) (K : Value → World → Prop) (hb : IsRd w b r) (hs : (r.1.size : Int) < 2 ^ 63)
    (h : ∀ w', Mod (fun k => k = b) w w' → IsRd w' b (number r n).2 → K (.int .u64 ((number r n).1 : Nat)) w') :
    Ok Proofs.Tryz.prog 61 #[ptr b, .int .i64 n] w K := by
  refine F61.enter (args := [ptr b, .int .i64 n]) (by simp) ?_
  unfold c61 r61
  simp only [vc_seq, vc_ops, vcOps_nil, vcOps_cons, goL_apply, thenQ_normal, upd_same, upd_other, updO_some, ev_tmp, ev_const, initE_at, insVc, ne_eq, not_false_eq_true, Nat.reduceEqDiff, reduceCtorEq, Option.getD_some, List.map_cons, List.map_nil, List.getElem?_cons_zero, List.getElem?_cons_succ]
  refine take_c b r n w _ hb ?_
  intro w1 hm hb1
  simp only [vc_seq, vc_block, vc_ops, vcOps_nil, vcOps_cons, goL_apply, thenQ_normal, upd_same, updO_some, ev_tmp, ev_const, insVc, lenSK]
  have hts : ((take r n).1.size : Int) < 2 ^ 63 := by
    unfold take; split
    · simp [e0, ByteArray.size]
    · split
      · simp [e0, ByteArray.size]
      · simp only [ByteArray.size_extract]; omega
  have hK := h w1 hm hb1
  unfold number at hK
  generalize (take r n).1 = t at *
  refine vc_loop (fun m ρ ds w => ds = [] ∧ w = w1 ∧ ρ 6 = .string t ∧ ρ 12 = .int .i64 t.size ∧ ∃ i : Nat, i + m = t.size ∧ ρ 13 = .int .i64 i ∧ ρ 5 = .int .u64 (numL (t.data.toList.take i) : Nat)) t.size ?_ ?_
  · exact ⟨rfl, rfl, by simp only [upd_same, upd_other, ne_eq, not_false_eq_true, Nat.reduceEqDiff], by simp only [upd_same, upd_other, ne_eq, not_false_eq_true, Nat.reduceEqDiff], 0, by simp, by simp only [upd_same]; rfl, by simp only [upd_same, upd_other, ne_eq, not_false_eq_true, Nat.reduceEqDiff, List.take_zero]; rfl⟩
  · rintro m ρ ds w ⟨rfl, rfl, h6, h12, i, him, h13, h5⟩
    simp only [vc_seq, vc_cond, vc_ops, vcOps_nil, vcOps_cons, goL_apply, thenQ_normal, upd_same, updO_some, ev_tmp, insVc, loadV_some, iopK, iopV, reduceCtorEq, true_and, or_false, h12, h13]
    by_cases hi : (i : Int) < t.size
    · obtain ⟨c, hc⟩ : ∃ c, t.data[i]? = some c := ⟨_, Array.getElem?_eq_getElem (by have : i < t.size := by omega
                                                                                     exact this)⟩
      simp only [vc_skip, vc_seq, vc_block, vc_ops, vcOps_nil, vcOps_cons, goL_apply, thenQ_normal, blockQ_normal, condP_true, upd_same, upd_other, updO_some, ev_tmp, ev_const, insVc, loadV_some, iopK, iopV, convK, sidxK, ne_eq, not_false_eq_true, Nat.reduceEqDiff, reduceCtorEq, Option.map_some, true_and, or_true, or_false, if_false, decide_true, Int.reduceLT, Int.reduceToNat, Int.toNat_natCast, hi, h6, h12, h13, h5, hc, step_or _ _ (numL_lt (t.data.toList.take i)) (UInt8.toNat_lt c)]
      refine ⟨by omega, m - 1, by omega, i + 1, by omega, ?_, ?_⟩
      · rw [wrap_i64 _ (by omega)]; rfl
      · rw [take_snoc t i c hc, numL_snoc]
    · simp only [vc_seq, vc_exit, vc_ret, vc_ops, vcOps_nil, vcOps_cons, goL_apply, thenQ_normal, thenQ_exit, blockQ_same, condP_false, upd_same, upd_other, updO_some, ev_tmp, endQ_ret, endK, resK, packed, insVc, ne_eq, not_false_eq_true, Nat.reduceEqDiff, List.nil_append, decide_false, hi, h5]
      have : i = t.size := by omega
      subst this
      rw [List.take_of_length_le (by rw [Array.length_toList]; exact Nat.le_refl _)]
      exact hK
end Go.Oct
