import Derived.Test.YtnpfllldeoiadaaGreatDoorVyI
set_option linter.unusedSimpArgs false
set_option linter.unusedVariables false
set_option linter.unusedSectionVars false
set_option linter.unnecessarySimpa false
namespace Go.Oct
open Go Go.Vc Go.VrA Go.VrB Go.VrD
set_option maxRecDepth 100000

/-! ### the lines of a dump -/

def headD (d : Du) : List UInt8 := [99, 108, 111, 99, 107, 32] ++ Lib.decDigits d.clock ++ [32, 108, 97, 115, 116, 32] ++ Lib.decDigits d.last ++ [10]
def dumpL (d : Du) : List UInt8 := headD d ++ rowsL quL d.qs ++ rowsL bdL d.bs ++ rowsL msgL d.ms
structure Du.small (d : Du) : Prop where
  l1 : d.qs.length ≤ 40
  l2 : d.bs.length ≤ 40
  l3 : d.ms.length ≤ 40
  g1 : ∀ x ∈ d.qs, x.small
  g2 : ∀ x ∈ d.bs, x.small
  g3 : ∀ x ∈ d.ms, x.small
theorem headD_len {w : World} {v1 v2 v3 : Value} (d : Du) (h : IsDu w v1 v2 v3 d) : (headD d).length ≤ 60 := by
  have h1 := dec_len d.clock h.c
  have h2 := dec_len d.last h.l
  simp only [headD, List.length_append, List.length_cons, List.length_nil]; omega
theorem rows_small {α : Type} (f : α → List UInt8) (l : List α) (hl : l.length ≤ 40) (h : ∀ x ∈ l, (f x).length ≤ 45000) : (rowsL f l).length ≤ 2000000 := by
  have := rowsL_len f 45000 l h
  have h2 : (45000 + 1) * l.length ≤ (45000 + 1) * 40 := Nat.mul_le_mul_left _ hl
  omega

theorem dump_c (d : Du) (v1 v2 v3 : Value) (hs : d.small) (w : World) (K : Value → World → Prop) (ht : Tab w) (hr : IsDu w v1 v2 v3 d)
    (h : ∀ w', Mod (fun _ => False) w w' → K (.string ⟨(dumpL d).toArray⟩) w') : Ok Proofs.Tryz.prog 16 #[.agg #[.int .u64 d.clock, .int .u64 d.last, v1, v2, v3]] w K := by
  have hh := headD_len d hr
  have n1 := rows_small quL d.qs hs.l1 (fun x hx => quL_len x (hs.g1 x hx))
  have n2 := rows_small bdL d.bs hs.l2 (fun x hx => bdL_len x (hs.g2 x hx))
  have n3 := rows_small msgL d.ms hs.l3 (fun x hx => by have := msgL_len x (hs.g3 x hx); omega)
  have k1 := hs.l1
  have k2 := hs.l2
  have k3 := hs.l3
  have hrow : Lib.join [[99, 108, 111, 99, 107], Lib.decDigits d.clock, [108, 97, 115, 116], Lib.decDigits d.last] [32] ++ [10] = headD d := by
    rw [Lib.join_cons, joinTail_cons, joinTail_cons, joinTail_cons, joinTail_nil]; simp [headD]
  have hrl : (Lib.join [[99, 108, 111, 99, 107], Lib.decDigits d.clock, [108, 97, 115, 116], Lib.decDigits d.last] [32]).length + 1 = (headD d).length := by
    rw [← hrow, List.length_append]; rfl
  refine F16.enter (args := [.agg #[.int .u64 d.clock, .int .u64 d.last, v1, v2, v3]]) (by simp) ?_
  unfold c16 r16
  have hm0 : Mod (fun _ => False) w (w.alloc (.cells #[.int .u64 d.clock, .int .u64 d.last, v1, v2, v3] 31)) := (Mod.refl _ _).alloc _
  have hx := get_alloc_new w (.cells #[.int .u64 d.clock, .int .u64 d.last, v1, v2, v3] 31)
  simp only [vc_seq, vc_ops, vcOps_nil, vcOps_cons, goL_apply, thenQ_normal, updO_some, ev_tmp, ev_const, initE_at, insVc, Value.cells, Option.getD_some, List.getElem?_cons_zero]
  refine draw_e (by kernel_rfl) (by kernel_rfl) (by kernel_rfl) (by kernel_rfl) ?_
  simp only [vc_ret, thenQ_normal, upd_same, upd_other, updO_some, ev_tmp, ev_const, ev_func, endQ_ret, endK, resK, packed, insVc, load1K, loadO_cells, loadV_some, faddrK, fillL, buildSK, Value.cells, ne_eq, not_false_eq_true, Nat.reduceEqDiff, Nat.reduceAdd, Nat.reduceLeDiff, List.map_cons, List.map_nil, List.getElem?_cons_zero, List.getElem?_cons_succ, List.getElem?_toArray, List.size_toArray, List.length_cons, List.length_nil, List.zipIdx_cons, List.zipIdx_nil, List.foldl_cons, List.foldl_nil, List.setIfInBounds_toArray, List.set_cons_zero, List.nil_append, List.toList_toArray, true_and, and_true, and_self, if_true, if_false, Bool.false_eq_true, Nat.zero_add, Nat.add_zero, pureI, kindI, loadI, vcE_nil, vcE_cons, stepE_pure, stepE_load, stepE_step, hx]
  have hd0 : Mod (fun _ => False) (w.alloc (.cells #[.int .u64 d.clock, .int .u64 d.last, v1, v2, v3] 31)) (w.alloc (.cells #[.int .u64 d.clock, .int .u64 d.last, v1, v2, v3] 31)).drew := (Mod.refl _ _).drew
  refine num64_c d.clock hr.c _ _ (ht.mod (hm0.trans hd0)) ?_
  intro u1 hm1
  have hd1 := hd0.trans hm1
  refine ⟨hd1, ?_⟩
  simp only [Nat.reduceAdd, Nat.reduceLeDiff, List.size_toArray, List.length_cons, List.length_nil, List.zipIdx_cons, List.zipIdx_nil, List.foldl_cons, List.foldl_nil, List.setIfInBounds_toArray, List.set_cons_zero, List.set_cons_succ, and_true, if_true, Nat.zero_add, Nat.add_zero]
  refine num64_c d.last hr.l u1 _ (ht.mod (hm0.trans hd1)) ?_
  intro u2 hm2
  have hd2 := hd1.trans hm2
  refine ⟨hd2, ?_⟩
  simp only [List.size_toArray, List.length_cons, List.length_nil, List.zipIdx_cons, List.zipIdx_nil, List.foldl_cons, List.foldl_nil, List.setIfInBounds_toArray, List.set_cons_zero, List.set_cons_succ, if_true, Nat.zero_add, Nat.add_zero]
  have hd3 := hd2.alloc (.cells (sC [[99, 108, 111, 99, 107], Lib.decDigits d.clock, [108, 97, 115, 116], Lib.decDigits d.last]).toArray 9)
  refine ⟨hd3, ?_⟩
  refine rowL_c u2.heap.size [[99, 108, 111, 99, 107], Lib.decDigits d.clock, [108, 97, 115, 116], Lib.decDigits d.last] 4 _ _ _ _ _ (get_alloc_new _ _) rfl rfl (by show 4 ≤ 100; decide) (by omega) ?_
  intro u4 hm4
  have hd4 := hd3.trans hm4
  refine ⟨hd4, ?_⟩
  simp only [Nat.reduceLeDiff, List.length_cons, List.length_nil, Nat.zero_add, sopK_add]
  refine ⟨by omega, ?_⟩
  rw [hrow]
  have ht4 := ht.mod (hm0.trans hd4)
  have hq4 := hr.qs.keep (hm0.trans hd4)
  refine linesQ_c d.qs v1 u4 _ ht4 hq4 (by omega) hs.g1 ?_
  intro u5 hm5
  have hd5 := hd4.trans hm5
  refine ⟨hd5, ?_⟩
  simp only [sopK_add]
  refine ⟨by omega, ?_⟩
  have ht5 := ht.mod (hm0.trans hd5)
  have hq5 := hr.bs.keep (hm0.trans hd5)
  refine linesB_c d.bs v2 u5 _ ht5 hq5 (by omega) hs.g2 ?_
  intro u6 hm6
  have hd6 := hd5.trans hm6
  refine ⟨hd6, ?_⟩
  simp only [sopK_add, List.length_append]
  refine ⟨by omega, ?_⟩
  have ht6 := ht.mod (hm0.trans hd6)
  have hq6 := hr.ms.keep (hm0.trans hd6)
  refine linesM_c d.ms v3 u6 _ ht6 hq6 (by omega) hs.g3 ?_
  intro u7 hm7
  have hd7 := hd6.trans hm7
  refine ⟨hd7, ?_⟩
  simp only [sopK_add, List.length_append]
  exact ⟨by omega, h u7 (hm0.trans hd7)⟩

/-! the reference's -/
noncomputable def cRd5 : CC := subC c17 [1, 1, 1, 1]
noncomputable def cRd4 : CC := subC c17 [1, 1, 1]
noncomputable def cRd3 : CC := subC c17 [1, 1]
theorem cRd_s : c17 = .seq (subC c17 [0]) (.seq (subC c17 [1, 0]) cRd3) := rfl
theorem cRd3_s : cRd3 = .seq (subC c17 [1, 1, 0]) cRd4 := rfl
theorem cRd4_s : cRd4 = .seq (subC c17 [1, 1, 1, 0]) cRd5 := rfl

theorem rdump5_c (d : Du) (v1 v2 v3 : Value) (hs : d.small) (w u0 : World) (K : Value → World → Prop) (hr : IsDu w v1 v2 v3 d) (acc : List UInt8) (hacc : acc.length ≤ 5000000) (ρ : Env) (hmu0 : Mod (fun _ => False) w u0) (hx : u0.heap[w.heap.size]? = some (.cells #[.int .u64 d.clock, .int .u64 d.last, v1, v2, v3] 53 (0, 0)))
    (r1 : ρ 1 = ptr w.heap.size) (r3 : ρ 3 = .string ⟨acc.toArray⟩)
    (h : ∀ w', Mod (fun _ => False) w w' → K (.string ⟨(acc ++ rowsL msgL d.ms).toArray⟩) w') : vc Proofs.Tryz.prog none 88 cRd5 (endQ Proofs.Tryz.prog r17 K) ρ [] u0 := by
  have hv := hr.ms
  have hl := hs.l3
  have hg := hs.g3
  obtain ⟨⟨a, cp, rfl⟩, _⟩ := id hv
  simp only [cRd5, subC, c17, vc_seq, vc_block, vc_ops, vcOps_nil, vcOps_cons, goL_apply, thenQ_normal, upd_same, updO_some, ev_tmp, ev_const, insVc, load1K, loadO_cells, loadV_some, faddrK, lenLK, List.getElem?_cons_zero, List.getElem?_cons_succ, List.getElem?_toArray, Nat.zero_add, r1, hx]
  refine vc_loop (fun mm ρ ds u => ∃ i, i ≤ d.ms.length ∧ mm = d.ms.length - i ∧ ds = [] ∧ ρ 3 = .string ⟨(acc ++ rowsL msgL (d.ms.take i)).toArray⟩ ∧ ρ 75 = .slice a d.ms.length cp ∧ ρ 76 = .int .i64 d.ms.length ∧ ρ 77 = .int .i64 i ∧
    Mod (fun _ => False) w u) d.ms.length ?_ ?_
  · refine ⟨0, Nat.zero_le _, rfl, rfl, ?_, ?_, ?_, ?_, hmu0⟩
    · simp only [upd_other, ne_eq, not_false_eq_true, Nat.reduceEqDiff, List.take_zero, r3]; simp [rowsL]
    · simp only [upd_same, upd_other, ne_eq, not_false_eq_true, Nat.reduceEqDiff]
    · simp only [upd_same, upd_other, ne_eq, not_false_eq_true, Nat.reduceEqDiff]
    · simp only [upd_same]; rfl
  · rintro mm ρ ds u ⟨i, hi, rfl, rfl, h3, h75, h76, h77, hmu⟩
    have hll := rowsL_len msgL 45000 (d.ms.take i) (fun m hm => by have := msgL_len m (hg m (List.mem_of_mem_take hm)); omega)
    rw [List.length_take, Nat.min_eq_left hi] at hll
    by_cases hc : i < d.ms.length
    · have d1 : (i : Int) < ((d.ms.length : Nat) : Int) := by omega
      have hi0 : (0 : Int) ≤ (i : Int) ∧ (i : Int) < ((d.ms.length : Nat) : Int) := by omega
      obtain ⟨m, hm⟩ : ∃ m, d.ms[i]? = some m := ⟨d.ms[i], List.getElem?_eq_getElem hc⟩
      have hms := hg m (List.mem_of_getElem? hm)
      have hml := msgL_len m hms
      obtain ⟨b, o, cur, t, f, rfl, hb, hsz, hex⟩ := (hv.keep hmu).at hm
      rw [Nat.add_assoc] at hsz hex
      have hw1 : IntKind.i64.wrap ((i : Int) + 1) = ((i + 1 : Nat) : Int) := by rw [wrap_i64 _ (by omega)]; omega
      have htk := rowsL_snoc msgL d.ms i m hm
      obtain ⟨u1, hu1⟩ : ∃ u1, u1 = Vc.set (u.alloc (.cells #[.string ⟨#[]⟩, .int .u64 0, .int .u32 0, .int .u64 0, .string ⟨#[]⟩] 44)) u.heap.size (.cells #[.string m.queue, .int .u64 m.id, .int .u32 m.tries, .int .u64 m.expiry, .string m.body] 44) := ⟨_, rfl⟩
      have hmu1 : Mod (fun _ => False) u u1 := by rw [hu1]; exact ((Mod.refl _ _).alloc _).set (.inl (Nat.le_refl _))
      simp only [vc_skip, vc_seq, vc_cond, vc_block, vc_ops, vcOps_nil, vcOps_cons, goL_apply, thenQ_normal, condP_true, upd_same, upd_other, updO_some, updO_none, ev_tmp, insVc, loadV_some, loadNK, loadNO_cells, storeNK, storeNO_cells, setMany, iopK, iopV, iaddrK, isPlain, Value.cells, ne_eq, not_false_eq_true, Nat.reduceEqDiff, Nat.reduceAdd, Nat.reduceLeDiff, reduceCtorEq, List.map_cons, List.map_nil, List.size_toArray, List.length_cons, List.length_nil, List.setIfInBounds_toArray, List.set_cons_zero, List.set_cons_succ, true_and, or_false, and_self, if_true, Nat.zero_add, decide_true, Bool.and_true, Int.toNat_natCast, List.extract_toArray, List.extract_eq_take_drop, List.drop_zero, List.take_zero, List.take_succ_cons, Nat.sub_zero, List.all_toArray', List.all_cons, List.all_nil, size_alloc, get_set_same, Nat.lt_add_one, get_alloc, size_alloc, Nat.add_assoc, Nat.reduceAdd, Nat.reduceEqDiff, h3, h75, h76, h77, d1, hi0, hb, hsz, hex, Ms.cells]
      rw [← hu1]
      refine rmsg_c m hms u1 _ ?_
      intro u2 hm2
      simp only [vc_ops, vcOps_nil, vcOps_cons, goL_apply, thenQ_normal, blockQ_normal, upd_same, upd_other, updO_some, ev_tmp, ev_const, insVc, loadV_some, iopK, iopV, ne_eq, not_false_eq_true, Nat.reduceEqDiff, Nat.reduceLeDiff, reduceCtorEq, List.length_cons, List.length_nil, true_and, or_false, Nat.zero_add, sopK_add, h75, h76, h77, hw1, List.length_append]
      refine ⟨by omega, by omega, d.ms.length - (i + 1), by omega, i + 1, by omega, rfl, ?_, rfl, (hmu.trans hmu1).trans hm2⟩
      rw [htk]; simp
    · have d1 : ¬ (i : Int) < ((d.ms.length : Nat) : Int) := by omega
      have hie : i = d.ms.length := by omega
      rw [hie, List.take_length] at h3
      simp only [vc_seq, vc_cond, vc_exit, vc_ret, vc_ops, vcOps_nil, vcOps_cons, goL_apply, thenQ_normal, thenQ_exit, blockQ_same, condP_false, upd_same, upd_other, updO_some, ev_tmp, endQ_ret, endK, resK, packed, insVc, loadV_some, iopK, iopV, ne_eq, not_false_eq_true, Nat.reduceEqDiff, reduceCtorEq, List.nil_append, true_and, or_false, decide_false, h3, h76, h77, d1]
      exact h u hmu
end Go.Oct

namespace Go.Oct
open Go Go.Vc Go.VrA Go.VrB Go.VrD
set_option maxRecDepth 100000

theorem rdump4_c (d : Du) (v1 v2 v3 : Value) (hs : d.small) (w u0 : World) (K : Value → World → Prop) (hr : IsDu w v1 v2 v3 d) (acc : List UInt8) (hacc : acc.length ≤ 2500000) (ρ : Env) (hmu0 : Mod (fun _ => False) w u0) (hx : u0.heap[w.heap.size]? = some (.cells #[.int .u64 d.clock, .int .u64 d.last, v1, v2, v3] 53 (0, 0)))
    (r1 : ρ 1 = ptr w.heap.size) (r3 : ρ 3 = .string ⟨acc.toArray⟩)
    (h : ∀ w', Mod (fun _ => False) w w' → K (.string ⟨(acc ++ rowsL bdL d.bs ++ rowsL msgL d.ms).toArray⟩) w') : vc Proofs.Tryz.prog none 88 cRd4 (endQ Proofs.Tryz.prog r17 K) ρ [] u0 := by
  have n2 := rows_small bdL d.bs hs.l2 (fun x hx => bdL_len x (hs.g2 x hx))
  have hv := hr.bs
  have hl := hs.l2
  have hg := hs.g2
  obtain ⟨⟨a, cp, hve⟩, _⟩ := id hv
  rw [cRd4_s]
  simp only [subC, c17, vc_seq, vc_block, vc_ops, vcOps_nil, vcOps_cons, goL_apply, thenQ_normal, upd_same, updO_some, ev_tmp, ev_const, insVc, load1K, loadO_cells, loadV_some, faddrK, lenLK, List.getElem?_cons_zero, List.getElem?_cons_succ, List.getElem?_toArray, Nat.zero_add, r1, hx, hve]
  rw [hve] at hv
  refine vc_loop (fun mm ρ ds u => ∃ i, i ≤ d.bs.length ∧ mm = d.bs.length - i ∧ ds = [] ∧ ρ 1 = ptr w.heap.size ∧ ρ 3 = .string ⟨(acc ++ rowsL bdL (d.bs.take i)).toArray⟩ ∧ ρ 35 = .slice a d.bs.length cp ∧ ρ 36 = .int .i64 d.bs.length ∧ ρ 37 = .int .i64 i ∧
    Mod (fun _ => False) w u ∧ u.heap[w.heap.size]? = some (.cells #[.int .u64 d.clock, .int .u64 d.last, v1, v2, v3] 53 (0, 0))) d.bs.length ?_ ?_
  · refine ⟨0, Nat.zero_le _, rfl, rfl, ?_, ?_, ?_, ?_, ?_, hmu0, hx⟩
    · simp only [upd_other, ne_eq, not_false_eq_true, Nat.reduceEqDiff, r1]
    · simp only [upd_other, ne_eq, not_false_eq_true, Nat.reduceEqDiff, List.take_zero, r3]; simp [rowsL]
    · simp only [upd_same, upd_other, ne_eq, not_false_eq_true, Nat.reduceEqDiff]
    · simp only [upd_same, upd_other, ne_eq, not_false_eq_true, Nat.reduceEqDiff]
    · simp only [upd_same]; rfl
  · rintro mm ρ ds u ⟨i, hi, rfl, rfl, h1, h3, h35, h36, h37, hmu, hxu⟩
    have hll := rowsL_len bdL 45000 (d.bs.take i) (fun m hm => bdL_len m (hg m (List.mem_of_mem_take hm)))
    rw [List.length_take, Nat.min_eq_left hi] at hll
    by_cases hc : i < d.bs.length
    · have d1 : (i : Int) < ((d.bs.length : Nat) : Int) := by omega
      have hi0 : (0 : Int) ≤ (i : Int) ∧ (i : Int) < ((d.bs.length : Nat) : Int) := by omega
      obtain ⟨m, hm⟩ : ∃ m, d.bs[i]? = some m := ⟨d.bs[i], List.getElem?_eq_getElem hc⟩
      have hms := hg m (List.mem_of_getElem? hm)
      obtain ⟨g0, g1, g2, g3⟩ := id hms
      have hil := Lib.itoa_length_le m.kind g0.1 g0.2
      have hkl := kindL_len m.kind g0
      have q1 := quoteL_len m.ex.data.toList
      have q1' : m.ex.data.toList.length = m.ex.size := rfl
      have q2 := quoteL_len m.key.data.toList
      have q2' : m.key.data.toList.length = m.key.size := rfl
      have q3 := quoteL_len m.queue.data.toList
      have q3' : m.queue.data.toList.length = m.queue.size := rfl
      obtain ⟨b, o, cur, t, f, rfl, hb, hsz, hex⟩ := (hv.keep hmu).at hm
      rw [Nat.add_assoc] at hsz hex
      have hw1 : IntKind.i64.wrap ((i : Int) + 1) = ((i + 1 : Nat) : Int) := by rw [wrap_i64 _ (by omega)]; omega
      have htk := rowsL_snoc bdL d.bs i m hm
      have hbd : bdL m ++ [10] = [98, 105, 110, 100, 32] ++ quoteL m.ex.data.toList ++ [32] ++ kindL m.kind ++ [32] ++ quoteL m.key.data.toList ++ [32, 116, 111, 32] ++ quoteL m.queue.data.toList ++ [10] := by
        simp only [bdL, bdW, Lib.join_cons, joinTail_cons, joinTail_nil]; simp
      obtain ⟨u1, hu1⟩ : ∃ u1, u1 = Vc.set (u.alloc (.cells #[.string ⟨#[]⟩, .int .i64 0, .string ⟨#[]⟩, .string ⟨#[]⟩] 61)) u.heap.size (.cells #[.string m.ex, .int .i64 m.kind, .string m.key, .string m.queue] 61) := ⟨_, rfl⟩
      have hmu1 : Mod (fun _ => False) u u1 := by rw [hu1]; exact ((Mod.refl _ _).alloc _).set (.inl (Nat.le_refl _))
      have x1 : u1.heap[u.heap.size]? = some (.cells #[.string m.ex, .int .i64 m.kind, .string m.key, .string m.queue] 61 (0, 0)) := by rw [hu1]; exact get_set_same _ _ _ (by rw [size_alloc]; omega)
      simp only [vc_skip, vc_seq, vc_cond, vc_block, vc_ops, vcOps_nil, vcOps_cons, goL_apply, thenQ_normal, condP_true, upd_same, upd_other, updO_some, updO_none, ev_tmp, insVc, load1K, loadO_cells, loadV_some, loadNK, loadNO_cells, storeNK, storeNO_cells, setMany, iopK, iopV, faddrK, iaddrK, isPlain, Value.cells, ne_eq, not_false_eq_true, Nat.reduceEqDiff, Nat.reduceAdd, Nat.reduceLeDiff, reduceCtorEq, List.map_cons, List.map_nil, List.getElem?_cons_zero, List.getElem?_cons_succ, List.getElem?_toArray, List.size_toArray, List.length_cons, List.length_nil, List.setIfInBounds_toArray, List.set_cons_zero, List.set_cons_succ, true_and, or_false, and_self, if_true, Nat.zero_add, decide_true, Bool.and_true, Int.toNat_natCast, List.all_toArray', List.all_cons, List.all_nil, size_alloc, get_set_same, Nat.lt_add_one, get_alloc, size_alloc, Nat.add_assoc, Nat.reduceAdd, Nat.reduceEqDiff, h35, h36, h37, d1, hi0, hb, hsz, hex, Bd.cells]
      rw [← hu1]
      refine rsigned_c m.kind g0 u1 _ ?_
      intro u2 hm2
      have x2 := hm2.keep x1 id
      have hm12 := hmu1.trans hm2
      have fin : ∀ u5, Mod (fun _ => False) u2 u5 → ∃ m', m' < d.bs.length - i ∧ ∃ j, j ≤ d.bs.length ∧ m' = d.bs.length - j ∧
          Value.string ⟨(acc ++ rowsL bdL (d.bs.take i) ++ [98, 105, 110, 100, 32] ++ quoteL m.ex.data.toList ++ [32] ++ kindL m.kind ++ [32] ++ quoteL m.key.data.toList ++ [32, 116, 111, 32] ++ quoteL m.queue.data.toList ++ [10]).toArray⟩ = .string ⟨(acc ++ rowsL bdL (d.bs.take j)).toArray⟩ ∧
          Value.int .i64 ((i + 1 : Nat) : Int) = .int .i64 j ∧ Mod (fun _ => False) w u5 ∧ u5.heap[w.heap.size]? = some (.cells #[.int .u64 d.clock, .int .u64 d.last, v1, v2, v3] 53 (0, 0)) := by
        intro u5 hm5
        refine ⟨d.bs.length - (i + 1), by omega, i + 1, by omega, rfl, ?_, rfl, (hmu.trans hm12).trans hm5, (hm12.trans hm5).keep hxu id⟩
        rw [htk, hbd]; simp
      by_cases k1 : m.kind = 1
      · have e1 : (m.kind == 1) = true := by rw [k1]; rfl
        have hk : kindL m.kind = [100, 105, 114, 101, 99, 116] := by simp only [kindL, k1]; rfl
        rw [hk] at hkl
        simp only [vc_seq, vc_cond, vc_block, vc_ops, vcOps_nil, vcOps_cons, goL_apply, thenQ_normal, blockQ_normal, condP_true, upd_same, upd_other, updO_some, ev_tmp, ev_const, insVc, load1K, loadO_cells, loadV_some, iopK, iopV, faddrK, ne_eq, not_false_eq_true, Nat.reduceEqDiff, Nat.reduceAdd, reduceCtorEq, List.getElem?_cons_zero, List.getElem?_cons_succ, List.getElem?_toArray, List.length_cons, List.length_nil, List.nil_append, List.cons_append, true_and, or_false, Nat.zero_add, sopK_add, x2, e1]
        refine ⟨by omega, ?_⟩
        refine draw_e (by kernel_rfl) (by kernel_rfl) (by kernel_rfl) (by kernel_rfl) ?_
        simp only [vc_ops, vcOps_nil, vcOps_cons, goL_apply, thenQ_normal, blockQ_normal, upd_same, upd_other, updO_some, ev_tmp, ev_const, insVc, load1K, loadO_cells, loadV_some, iopK, iopV, faddrK, ne_eq, not_false_eq_true, Nat.reduceEqDiff, Nat.reduceAdd, Nat.reduceLeDiff, reduceCtorEq, List.map_cons, List.map_nil, List.getElem?_cons_zero, List.getElem?_cons_succ, List.getElem?_toArray, List.length_cons, List.length_nil, true_and, or_false, if_true, if_false, Bool.false_eq_true, Nat.zero_add, Nat.add_zero, pureI, kindI, loadI, sopK_add, vcE_nil, vcE_cons, stepE_pure, stepE_load, stepE_step, x2, h3, List.length_append]
        refine ⟨by omega, ?_⟩
        have hd0 : Mod (fun _ => False) u2 u2.drew := (Mod.refl _ _).drew
        refine rquote_c m.ex (by omega) u2.drew _ ?_
        intro u3 hm3
        have hd1 := hd0.trans hm3
        refine ⟨hd1, ?_⟩
        simp only [Nat.reduceAdd, Nat.reduceLeDiff, List.length_cons, List.length_nil, Nat.zero_add, sopK_add, List.length_append]
        refine ⟨by omega, by omega, by omega, by omega, ?_⟩
        refine rquote_c m.key (by omega) u3 _ ?_
        intro u4 hm4
        have hd2 := hd1.trans hm4
        refine ⟨hd2, ?_⟩
        simp only [Nat.reduceAdd, Nat.reduceLeDiff, List.length_cons, List.length_nil, Nat.zero_add, sopK_add, List.length_append]
        refine ⟨by omega, by omega, ?_⟩
        refine rquote_c m.queue (by omega) u4 _ ?_
        intro u5 hm5
        have hd3 := hd2.trans hm5
        refine ⟨hd3, ?_⟩
        simp only [Nat.reduceAdd, Nat.reduceLeDiff, List.length_cons, List.length_nil, true_and, Nat.zero_add, sopK_add, h1, h35, h36, h37, hw1, List.length_append]
        refine ⟨by omega, by omega, ?_⟩
        simpa only [hk] using fin u5 hd3

      have e1 : (m.kind == 1) = false := by rw [beq_eq_false_iff_ne]; exact k1
      by_cases k2 : m.kind = 2
      · have e2 : (m.kind == 2) = true := by rw [k2]; rfl
        have hk : kindL m.kind = [102, 97, 110, 111, 117, 116] := by simp only [kindL, k2]; rfl
        rw [hk] at hkl
        simp only [vc_seq, vc_cond, vc_block, vc_ops, vcOps_nil, vcOps_cons, goL_apply, thenQ_normal, blockQ_normal, condP_true, condP_false, upd_same, upd_other, updO_some, ev_tmp, ev_const, insVc, load1K, loadO_cells, loadV_some, iopK, iopV, faddrK, ne_eq, not_false_eq_true, Nat.reduceEqDiff, Nat.reduceAdd, reduceCtorEq, List.getElem?_cons_zero, List.getElem?_cons_succ, List.getElem?_toArray, List.length_cons, List.length_nil, List.nil_append, List.cons_append, true_and, or_false, Nat.zero_add, sopK_add, x2, e1, e2]
        refine ⟨by omega, ?_⟩
        refine draw_e (by kernel_rfl) (by kernel_rfl) (by kernel_rfl) (by kernel_rfl) ?_
        simp only [vc_ops, vcOps_nil, vcOps_cons, goL_apply, thenQ_normal, blockQ_normal, upd_same, upd_other, updO_some, ev_tmp, ev_const, insVc, load1K, loadO_cells, loadV_some, iopK, iopV, faddrK, ne_eq, not_false_eq_true, Nat.reduceEqDiff, Nat.reduceAdd, Nat.reduceLeDiff, reduceCtorEq, List.map_cons, List.map_nil, List.getElem?_cons_zero, List.getElem?_cons_succ, List.getElem?_toArray, List.length_cons, List.length_nil, true_and, or_false, if_true, if_false, Bool.false_eq_true, Nat.zero_add, Nat.add_zero, pureI, kindI, loadI, sopK_add, vcE_nil, vcE_cons, stepE_pure, stepE_load, stepE_step, x2, h3, List.length_append]
        refine ⟨by omega, ?_⟩
        have hd0 : Mod (fun _ => False) u2 u2.drew := (Mod.refl _ _).drew
        refine rquote_c m.ex (by omega) u2.drew _ ?_
        intro u3 hm3
        have hd1 := hd0.trans hm3
        refine ⟨hd1, ?_⟩
        simp only [Nat.reduceAdd, Nat.reduceLeDiff, List.length_cons, List.length_nil, Nat.zero_add, sopK_add, List.length_append]
        refine ⟨by omega, by omega, by omega, by omega, ?_⟩
        refine rquote_c m.key (by omega) u3 _ ?_
        intro u4 hm4
        have hd2 := hd1.trans hm4
        refine ⟨hd2, ?_⟩
        simp only [Nat.reduceAdd, Nat.reduceLeDiff, List.length_cons, List.length_nil, Nat.zero_add, sopK_add, List.length_append]
        refine ⟨by omega, by omega, ?_⟩
        refine rquote_c m.queue (by omega) u4 _ ?_
        intro u5 hm5
        have hd3 := hd2.trans hm5
        refine ⟨hd3, ?_⟩
        simp only [Nat.reduceAdd, Nat.reduceLeDiff, List.length_cons, List.length_nil, true_and, Nat.zero_add, sopK_add, h1, h35, h36, h37, hw1, List.length_append]
        refine ⟨by omega, by omega, ?_⟩
        simpa only [hk] using fin u5 hd3

      have e2 : (m.kind == 2) = false := by rw [beq_eq_false_iff_ne]; exact k2
      by_cases k3 : m.kind = 3
      · have e3 : (m.kind == 3) = true := by rw [k3]; rfl
        have hk : kindL m.kind = [116, 111, 112, 105, 99] := by simp only [kindL, k3]; rfl
        rw [hk] at hkl
        simp only [vc_seq, vc_cond, vc_block, vc_ops, vcOps_nil, vcOps_cons, goL_apply, thenQ_normal, blockQ_normal, condP_true, condP_false, upd_same, upd_other, updO_some, ev_tmp, ev_const, insVc, load1K, loadO_cells, loadV_some, iopK, iopV, faddrK, ne_eq, not_false_eq_true, Nat.reduceEqDiff, Nat.reduceAdd, reduceCtorEq, List.getElem?_cons_zero, List.getElem?_cons_succ, List.getElem?_toArray, List.length_cons, List.length_nil, List.nil_append, List.cons_append, true_and, or_false, Nat.zero_add, sopK_add, x2, e1, e2, e3]
        refine ⟨by omega, ?_⟩
        refine draw_e (by kernel_rfl) (by kernel_rfl) (by kernel_rfl) (by kernel_rfl) ?_
        simp only [vc_ops, vcOps_nil, vcOps_cons, goL_apply, thenQ_normal, blockQ_normal, upd_same, upd_other, updO_some, ev_tmp, ev_const, insVc, load1K, loadO_cells, loadV_some, iopK, iopV, faddrK, ne_eq, not_false_eq_true, Nat.reduceEqDiff, Nat.reduceAdd, Nat.reduceLeDiff, reduceCtorEq, List.map_cons, List.map_nil, List.getElem?_cons_zero, List.getElem?_cons_succ, List.getElem?_toArray, List.length_cons, List.length_nil, true_and, or_false, if_true, if_false, Bool.false_eq_true, Nat.zero_add, Nat.add_zero, pureI, kindI, loadI, sopK_add, vcE_nil, vcE_cons, stepE_pure, stepE_load, stepE_step, x2, h3, List.length_append]
        refine ⟨by omega, ?_⟩
        have hd0 : Mod (fun _ => False) u2 u2.drew := (Mod.refl _ _).drew
        refine rquote_c m.ex (by omega) u2.drew _ ?_
        intro u3 hm3
        have hd1 := hd0.trans hm3
        refine ⟨hd1, ?_⟩
        simp only [Nat.reduceAdd, Nat.reduceLeDiff, List.length_cons, List.length_nil, Nat.zero_add, sopK_add, List.length_append]
        refine ⟨by omega, by omega, by omega, by omega, ?_⟩
        refine rquote_c m.key (by omega) u3 _ ?_
        intro u4 hm4
        have hd2 := hd1.trans hm4
        refine ⟨hd2, ?_⟩
        simp only [Nat.reduceAdd, Nat.reduceLeDiff, List.length_cons, List.length_nil, Nat.zero_add, sopK_add, List.length_append]
        refine ⟨by omega, by omega, ?_⟩
        refine rquote_c m.queue (by omega) u4 _ ?_
        intro u5 hm5
        have hd3 := hd2.trans hm5
        refine ⟨hd3, ?_⟩
        simp only [Nat.reduceAdd, Nat.reduceLeDiff, List.length_cons, List.length_nil, true_and, Nat.zero_add, sopK_add, h1, h35, h36, h37, hw1, List.length_append]
        refine ⟨by omega, by omega, ?_⟩
        simpa only [hk] using fin u5 hd3

      have e3 : (m.kind == 3) = false := by rw [beq_eq_false_iff_ne]; exact k3
      have hk : kindL m.kind = [107, 105, 110, 100] ++ Lib.itoa m.kind := by simp only [kindL, if_neg k1, if_neg k2, if_neg k3]
      rw [hk] at hkl
      simp only [vc_skip, vc_seq, vc_cond, vc_block, vc_ops, vcOps_nil, vcOps_cons, goL_apply, thenQ_normal, blockQ_normal, condP_false, upd_same, upd_other, updO_some, ev_tmp, ev_const, insVc, load1K, loadO_cells, loadV_some, iopK, iopV, faddrK, ne_eq, not_false_eq_true, Nat.reduceEqDiff, Nat.reduceAdd, reduceCtorEq, List.getElem?_cons_zero, List.getElem?_cons_succ, List.getElem?_toArray, List.length_cons, List.length_nil, List.nil_append, List.cons_append, true_and, or_false, Nat.zero_add, sopK_add, x2, e1, e2, e3]
      refine ⟨by omega, ?_⟩
      refine draw_e (by kernel_rfl) (by kernel_rfl) (by kernel_rfl) (by kernel_rfl) ?_
      simp only [vc_ops, vcOps_nil, vcOps_cons, goL_apply, thenQ_normal, blockQ_normal, upd_same, upd_other, updO_some, ev_tmp, ev_const, insVc, load1K, loadO_cells, loadV_some, iopK, iopV, faddrK, ne_eq, not_false_eq_true, Nat.reduceEqDiff, Nat.reduceAdd, Nat.reduceLeDiff, reduceCtorEq, List.map_cons, List.map_nil, List.getElem?_cons_zero, List.getElem?_cons_succ, List.getElem?_toArray, List.length_cons, List.length_nil, true_and, or_false, if_true, if_false, Bool.false_eq_true, Nat.zero_add, Nat.add_zero, pureI, kindI, loadI, sopK_add, vcE_nil, vcE_cons, stepE_pure, stepE_load, stepE_step, x2, h3, List.length_append]
      refine ⟨by omega, ?_⟩
      have hd0 : Mod (fun _ => False) u2 u2.drew := (Mod.refl _ _).drew
      refine rquote_c m.ex (by omega) u2.drew _ ?_
      intro u3 hm3
      have hd1 := hd0.trans hm3
      refine ⟨hd1, ?_⟩
      simp only [Nat.reduceAdd, Nat.reduceLeDiff, List.length_cons, List.length_nil, Nat.zero_add, sopK_add, List.length_append]
      refine ⟨by omega, by omega, by omega, by omega, ?_⟩
      refine rquote_c m.key (by omega) u3 _ ?_
      intro u4 hm4
      have hd2 := hd1.trans hm4
      refine ⟨hd2, ?_⟩
      simp only [Nat.reduceAdd, Nat.reduceLeDiff, List.length_cons, List.length_nil, Nat.zero_add, sopK_add, List.length_append]
      refine ⟨by omega, by omega, ?_⟩
      refine rquote_c m.queue (by omega) u4 _ ?_
      intro u5 hm5
      have hd3 := hd2.trans hm5
      refine ⟨hd3, ?_⟩
      simp only [Nat.reduceAdd, Nat.reduceLeDiff, List.length_cons, List.length_nil, true_and, Nat.zero_add, sopK_add, h1, h35, h36, h37, hw1, List.length_append]
      refine ⟨by omega, by omega, ?_⟩
      simpa only [hk, List.cons_append, List.nil_append] using fin u5 hd3
    · have d1 : ¬ (i : Int) < ((d.bs.length : Nat) : Int) := by omega
      have hie : i = d.bs.length := by omega
      rw [hie, List.take_length] at h3
      simp only [vc_seq, vc_cond, vc_exit, vc_ops, vcOps_nil, vcOps_cons, goL_apply, thenQ_normal, thenQ_exit, blockQ_same, condP_false, upd_same, updO_some, ev_tmp, insVc, loadV_some, iopK, iopV, reduceCtorEq, true_and, or_false, decide_false, h36, h37, d1]
      exact rdump5_c d v1 v2 v3 hs w u K hr _ (by rw [List.length_append]; omega) _ hmu hxu (by simp only [upd_other, ne_eq, not_false_eq_true, Nat.reduceEqDiff, h1]) (by simp only [upd_other, ne_eq, not_false_eq_true, Nat.reduceEqDiff, h3]) h

theorem rdump3_c (d : Du) (v1 v2 v3 : Value) (hs : d.small) (w u0 : World) (K : Value → World → Prop) (hr : IsDu w v1 v2 v3 d) (acc : List UInt8) (hacc : acc.length ≤ 100) (ρ : Env) (hmu0 : Mod (fun _ => False) w u0) (hx : u0.heap[w.heap.size]? = some (.cells #[.int .u64 d.clock, .int .u64 d.last, v1, v2, v3] 53 (0, 0)))
    (r1 : ρ 1 = ptr w.heap.size) (r3 : ρ 3 = .string ⟨acc.toArray⟩)
    (h : ∀ w', Mod (fun _ => False) w w' → K (.string ⟨(acc ++ rowsL quL d.qs ++ rowsL bdL d.bs ++ rowsL msgL d.ms).toArray⟩) w') : vc Proofs.Tryz.prog none 88 cRd3 (endQ Proofs.Tryz.prog r17 K) ρ [] u0 := by
  have n2 := rows_small quL d.qs hs.l1 (fun x hx => quL_len x (hs.g1 x hx))
  have hv := hr.qs
  have hl := hs.l1
  have hg := hs.g1
  obtain ⟨⟨a, cp, hve⟩, _⟩ := id hv
  rw [cRd3_s]
  simp only [subC, c17, vc_seq, vc_block, vc_ops, vcOps_nil, vcOps_cons, goL_apply, thenQ_normal, upd_same, updO_some, ev_tmp, ev_const, insVc, load1K, loadO_cells, loadV_some, faddrK, lenLK, List.getElem?_cons_zero, List.getElem?_cons_succ, List.getElem?_toArray, Nat.zero_add, r1, hx, hve]
  rw [hve] at hv
  refine vc_loop (fun mm ρ ds u => ∃ i, i ≤ d.qs.length ∧ mm = d.qs.length - i ∧ ds = [] ∧ ρ 1 = ptr w.heap.size ∧ ρ 3 = .string ⟨(acc ++ rowsL quL (d.qs.take i)).toArray⟩ ∧ ρ 22 = .slice a d.qs.length cp ∧ ρ 23 = .int .i64 d.qs.length ∧ ρ 24 = .int .i64 i ∧
    Mod (fun _ => False) w u ∧ u.heap[w.heap.size]? = some (.cells #[.int .u64 d.clock, .int .u64 d.last, v1, v2, v3] 53 (0, 0))) d.qs.length ?_ ?_
  · refine ⟨0, Nat.zero_le _, rfl, rfl, ?_, ?_, ?_, ?_, ?_, hmu0, hx⟩
    · simp only [upd_other, ne_eq, not_false_eq_true, Nat.reduceEqDiff, r1]
    · simp only [upd_other, ne_eq, not_false_eq_true, Nat.reduceEqDiff, List.take_zero, r3]; simp [rowsL]
    · simp only [upd_same, upd_other, ne_eq, not_false_eq_true, Nat.reduceEqDiff]
    · simp only [upd_same, upd_other, ne_eq, not_false_eq_true, Nat.reduceEqDiff]
    · simp only [upd_same]; rfl
  · rintro mm ρ ds u ⟨i, hi, rfl, rfl, h1, h3, h22, h23, h24, hmu, hxu⟩
    have hll := rowsL_len quL 45000 (d.qs.take i) (fun m hm => quL_len m (hg m (List.mem_of_mem_take hm)))
    rw [List.length_take, Nat.min_eq_left hi] at hll
    by_cases hc : i < d.qs.length
    · have d1 : (i : Int) < ((d.qs.length : Nat) : Int) := by omega
      have hi0 : (0 : Int) ≤ (i : Int) ∧ (i : Int) < ((d.qs.length : Nat) : Int) := by omega
      obtain ⟨m, hm⟩ : ∃ m, d.qs[i]? = some m := ⟨d.qs[i], List.getElem?_eq_getElem hc⟩
      have hms := hg m (List.mem_of_getElem? hm)
      have hml := quL_len m hms
      obtain ⟨b, o, cur, t, f, rfl, hb, hsz, hex⟩ := (hv.keep hmu).at hm
      rw [Nat.add_assoc] at hsz hex
      have hw1 : IntKind.i64.wrap ((i : Int) + 1) = ((i + 1 : Nat) : Int) := by rw [wrap_i64 _ (by omega)]; omega
      have htk := rowsL_snoc quL d.qs i m hm
      obtain ⟨u1, hu1⟩ : ∃ u1, u1 = Vc.set (u.alloc (.cells #[.string ⟨#[]⟩, .int .u32 0, .int .u64 0, .int .u32 0, .string ⟨#[]⟩] 41)) u.heap.size (.cells #[.string m.name, .int .u32 m.most, .int .u64 m.ttl, .int .u32 m.tries, .string m.dead] 41) := ⟨_, rfl⟩
      have hmu1 : Mod (fun _ => False) u u1 := by rw [hu1]; exact ((Mod.refl _ _).alloc _).set (.inl (Nat.le_refl _))
      simp only [vc_skip, vc_seq, vc_cond, vc_block, vc_ops, vcOps_nil, vcOps_cons, goL_apply, thenQ_normal, condP_true, upd_same, upd_other, updO_some, updO_none, ev_tmp, insVc, loadV_some, loadNK, loadNO_cells, storeNK, storeNO_cells, setMany, iopK, iopV, iaddrK, isPlain, Value.cells, ne_eq, not_false_eq_true, Nat.reduceEqDiff, Nat.reduceAdd, Nat.reduceLeDiff, reduceCtorEq, List.map_cons, List.map_nil, List.size_toArray, List.length_cons, List.length_nil, List.setIfInBounds_toArray, List.set_cons_zero, List.set_cons_succ, true_and, or_false, and_self, if_true, Nat.zero_add, decide_true, Bool.and_true, Int.toNat_natCast, List.extract_toArray, List.extract_eq_take_drop, List.drop_zero, List.take_zero, List.take_succ_cons, Nat.sub_zero, List.all_toArray', List.all_cons, List.all_nil, size_alloc, get_set_same, Nat.lt_add_one, get_alloc, size_alloc, Nat.add_assoc, Nat.reduceAdd, Nat.reduceEqDiff, h3, h22, h23, h24, d1, hi0, hb, hsz, hex, Qu.cells]
      rw [← hu1]
      refine rqu_c m hms u1 _ ?_
      intro u2 hm2
      simp only [vc_ops, vcOps_nil, vcOps_cons, goL_apply, thenQ_normal, blockQ_normal, upd_same, upd_other, updO_some, ev_tmp, ev_const, insVc, loadV_some, iopK, iopV, ne_eq, not_false_eq_true, Nat.reduceEqDiff, Nat.reduceLeDiff, reduceCtorEq, List.length_cons, List.length_nil, true_and, or_false, Nat.zero_add, sopK_add, h1, h22, h23, h24, hw1, List.length_append]
      refine ⟨by omega, by omega, d.qs.length - (i + 1), by omega, i + 1, by omega, rfl, ?_, rfl, (hmu.trans hmu1).trans hm2, (hmu1.trans hm2).keep hxu id⟩
      rw [htk]; simp
    · have d1 : ¬ (i : Int) < ((d.qs.length : Nat) : Int) := by omega
      have hie : i = d.qs.length := by omega
      rw [hie, List.take_length] at h3
      simp only [vc_seq, vc_cond, vc_exit, vc_ops, vcOps_nil, vcOps_cons, goL_apply, thenQ_normal, thenQ_exit, blockQ_same, condP_false, upd_same, updO_some, ev_tmp, insVc, loadV_some, iopK, iopV, reduceCtorEq, true_and, or_false, decide_false, h23, h24, d1]
      exact rdump4_c d v1 v2 v3 hs w u K hr _ (by rw [List.length_append]; omega) _ hmu hxu (by simp only [upd_other, ne_eq, not_false_eq_true, Nat.reduceEqDiff, h1]) (by simp only [upd_other, ne_eq, not_false_eq_true, Nat.reduceEqDiff, h3]) h

theorem rdump_c (d : Du) (v1 v2 v3 : Value) (hs : d.small) (w : World) (K : Value → World → Prop) (hr : IsDu w v1 v2 v3 d)
    (h : ∀ w', Mod (fun _ => False) w w' → K (.string ⟨(dumpL d).toArray⟩) w') : Ok Proofs.Tryz.prog 17 #[.agg #[.int .u64 d.clock, .int .u64 d.last, v1, v2, v3]] w K := by
  have hh := headD_len d hr
  have c1 := dec_len d.clock hr.c
  have c2 := dec_len d.last hr.l
  refine F17.enter (args := [.agg #[.int .u64 d.clock, .int .u64 d.last, v1, v2, v3]]) (by simp) ?_
  rw [cRd_s]
  have hm0 : Mod (fun _ => False) w (w.alloc (.cells #[.int .u64 d.clock, .int .u64 d.last, v1, v2, v3] 53)) := (Mod.refl _ _).alloc _
  have hx := get_alloc_new w (.cells #[.int .u64 d.clock, .int .u64 d.last, v1, v2, v3] 53)
  simp only [subC, c17, vc_seq, vc_ops, vcOps_nil, vcOps_cons, goL_apply, thenQ_normal, updO_some, ev_tmp, ev_const, initE_at, insVc, Value.cells, Option.getD_some, List.getElem?_cons_zero]
  refine draw_e (by kernel_rfl) (by kernel_rfl) (by kernel_rfl) (by kernel_rfl) ?_
  simp only [thenQ_normal, upd_same, upd_other, updO_some, ev_tmp, ev_const, insVc, load1K, loadO_cells, loadV_some, faddrK, ne_eq, not_false_eq_true, Nat.reduceEqDiff, List.map_cons, List.map_nil, List.getElem?_cons_zero, List.getElem?_cons_succ, List.getElem?_toArray, if_true, if_false, Bool.false_eq_true, Nat.zero_add, Nat.add_zero, pureI, kindI, loadI, vcE_nil, vcE_cons, stepE_pure, stepE_load, stepE_step, hx]
  have hd0 : Mod (fun _ => False) (w.alloc (.cells #[.int .u64 d.clock, .int .u64 d.last, v1, v2, v3] 53)) (w.alloc (.cells #[.int .u64 d.clock, .int .u64 d.last, v1, v2, v3] 53)).drew := (Mod.refl _ _).drew
  refine rdec_c d.clock hr.c _ _ ?_
  intro u1 hm1
  have hd1 := hd0.trans hm1
  refine ⟨hd1, ?_⟩
  simp only [Nat.reduceAdd, Nat.reduceLeDiff, List.length_cons, List.length_nil, List.nil_append, List.cons_append, Nat.zero_add, sopK_add]
  refine ⟨by omega, by omega, ?_⟩
  refine rdec_c d.last hr.l u1 _ ?_
  intro u2 hm2
  have hd2 := hd1.trans hm2
  refine ⟨hd2, ?_⟩
  simp only [Nat.reduceAdd, Nat.reduceLeDiff, List.length_cons, List.length_nil, List.cons_append, Nat.zero_add, sopK_add, List.length_append]
  refine ⟨by omega, by omega, ?_⟩
  exact rdump3_c d v1 v2 v3 hs w u2 K hr (headD d) (by omega) _ (hm0.trans hd2) (hd2.keep hx id) (by simp only [upd_same, upd_other, ne_eq, not_false_eq_true, Nat.reduceEqDiff]) (by simp only [upd_same]; rfl) h
end Go.Oct
