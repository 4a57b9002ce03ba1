import Derived.Test.YtnpfllldeoiadaaGreatDoorVyK
set_option linter.unusedSimpArgs false
set_option linter.unusedVariables false
set_option linter.unusedSectionVars false
set_option linter.unnecessarySimpa false
namespace Go.Oct
open Go Go.Vc Go.VrA Go.VrB Go.VrD
set_option maxRecDepth 100000

/-! ### the lines of a look's report -/

def partP (wd : List UInt8) (l : List Nat) : List UInt8 := if l = [] then [] else wd ++ listL l
def pg0 (r : Rt) : List UInt8 := [112, 97, 103, 101, 115, 58, 32, 116, 114, 101, 101, 32] ++ Lib.decDigits r.tree.length ++ [44, 32, 99, 104, 97, 105, 110, 115, 32] ++ Lib.decDigits r.chains.length ++ [44, 32, 108, 101, 100, 103, 101, 114, 32] ++ Lib.decDigits r.ledger.length ++ [44, 32, 102, 114, 101, 101, 32] ++ Lib.decDigits r.free.length
def pg1 (r : Rt) : List UInt8 := pg0 r ++ partP [44, 32, 108, 111, 115, 116, 32] r.lost
def pg2 (r : Rt) : List UInt8 := pg1 r ++ partP [44, 32, 116, 119, 105, 99, 101, 32] r.twice
def pgT (r : Rt) : List UInt8 := [10, 112, 97, 105, 114, 115, 58, 32] ++ Lib.itoa r.pairs ++ [32, 111, 102, 32] ++ Lib.decDigits r.bytes ++ [32, 98, 121, 116, 101, 115, 44, 32] ++ Lib.itoa r.depth ++ [32, 100, 101, 101, 112, 10]
def pagesL (r : Rt) : List UInt8 := pg2 r ++ pgT r
structure Rt.small (r : Rt) : Prop where
  l1 : r.tree.length ≤ 200
  l2 : r.chains.length ≤ 200
  l3 : r.ledger.length ≤ 200
  l4 : r.free.length ≤ 200
  l5 : r.lost.length ≤ 200
  l6 : r.twice.length ≤ 200
theorem pg0_len (r : Rt) (h : r.small) : (pg0 r).length ≤ 120 := by
  have d1 := dec_len r.tree.length (by have := h.l1; omega)
  have d2 := dec_len r.chains.length (by have := h.l2; omega)
  have d3 := dec_len r.ledger.length (by have := h.l3; omega)
  have d4 := dec_len r.free.length (by have := h.l4; omega)
  simp only [pg0, List.length_append, List.length_cons, List.length_nil]; omega
theorem partP_len (wd : List UInt8) (l : List Nat) (hw : wd.length ≤ 8) (hl : l.length ≤ 200) (h : ∀ n ∈ l, n < 2 ^ 32) : (partP wd l).length ≤ 4300 := by
  have := listL_len l (fun n hn => by have := h n hn; omega)
  unfold partP
  split
  · decide
  · rw [List.length_append]; omega

noncomputable def cPg5 : CC := subC c18 [1, 1, 1, 1]
noncomputable def cPg4 : CC := subC c18 [1, 1, 1]
noncomputable def cPg3 : CC := subC c18 [1, 1]
theorem cPg_s : c18 = .seq (subC c18 [0]) (.seq (subC c18 [1, 0]) cPg3) := rfl
theorem cPg3_s : cPg3 = .seq (subC c18 [1, 1, 0]) cPg4 := rfl
theorem cPg4_s : cPg4 = .seq (subC c18 [1, 1, 1, 0]) cPg5 := rfl

def rtV (r : Rt) (v1 v2 v3 v4 v5 v6 : Value) : Array Value := #[v1, v2, v3, v4, v5, v6, .int .i64 r.pairs, .int .u64 r.bytes, .int .i64 r.depth]

theorem pages_c (r : Rt) (v1 v2 v3 v4 v5 v6 : Value) (hs : r.small) (w : World) (K : Value → World → Prop) (ht : Tab w) (hr : IsRt w v1 v2 v3 v4 v5 v6 r)
    (h : ∀ w', Mod (fun _ => False) w w' → K (.string ⟨(pagesL r).toArray⟩) w') : Ok Proofs.Tryz.prog 18 #[.agg (rtV r v1 v2 v3 v4 v5 v6)] w K := by
  have n0 := pg0_len r hs
  have n5 := partP_len [44, 32, 108, 111, 115, 116, 32] r.lost (by decide) hs.l5 hr.g5
  have n6 := partP_len [44, 32, 116, 119, 105, 99, 101, 32] r.twice (by decide) hs.l6 hr.g6
  have l5 := listL_len r.lost (fun n hn => by have := hr.g5 n hn; unfold lt32 at this; omega)
  have l6 := listL_len r.twice (fun n hn => by have := hr.g6 n hn; unfold lt32 at this; omega)
  have k1 := hs.l1
  have k2 := hs.l2
  have k3 := hs.l3
  have k4 := hs.l4
  have k5 := hs.l5
  have k6 := hs.l6
  have i1 := Lib.itoa_length_le r.pairs hr.p.1 hr.p.2
  have i2 := Lib.itoa_length_le r.depth hr.d.1 hr.d.2
  have i3 := dec_len r.bytes hr.b
  have d1 := dec_len r.tree.length (by omega)
  have d2 := dec_len r.chains.length (by omega)
  have d3 := dec_len r.ledger.length (by omega)
  have d4 := dec_len r.free.length (by omega)
  obtain ⟨⟨a1, c1, rfl⟩, _⟩ := id hr.t1
  obtain ⟨⟨a2, c2, rfl⟩, _⟩ := id hr.t2
  obtain ⟨⟨a3, c3, rfl⟩, _⟩ := id hr.t3
  obtain ⟨⟨a4, c4, rfl⟩, _⟩ := id hr.t4
  obtain ⟨⟨a5, c5, rfl⟩, _⟩ := id hr.t5
  obtain ⟨⟨a6, c6, rfl⟩, _⟩ := id hr.t6
  have X := get_alloc_new w (.cells (rtV r (.slice a1 r.tree.length c1) (.slice a2 r.chains.length c2) (.slice a3 r.ledger.length c3) (.slice a4 r.free.length c4) (.slice a5 r.lost.length c5) (.slice a6 r.twice.length c6)) 34)
  have hm0 : Mod (fun _ => False) w (w.alloc (.cells (rtV r (.slice a1 r.tree.length c1) (.slice a2 r.chains.length c2) (.slice a3 r.ledger.length c3) (.slice a4 r.free.length c4) (.slice a5 r.lost.length c5) (.slice a6 r.twice.length c6)) 34)) := (Mod.refl _ _).alloc _
  refine F18.enter (args := [.agg (rtV r (.slice a1 r.tree.length c1) (.slice a2 r.chains.length c2) (.slice a3 r.ledger.length c3) (.slice a4 r.free.length c4) (.slice a5 r.lost.length c5) (.slice a6 r.twice.length c6))]) (by simp) ?_
  have s5 : ∀ (ρ : Env) (u : World), Mod (fun _ => False) w u → u.heap[w.heap.size]? = some (.cells (rtV r (.slice a1 r.tree.length c1) (.slice a2 r.chains.length c2) (.slice a3 r.ledger.length c3) (.slice a4 r.free.length c4) (.slice a5 r.lost.length c5) (.slice a6 r.twice.length c6)) 34 (0, 0)) → ρ 1 = ptr w.heap.size → ρ 3 = .string ⟨(pg2 r).toArray⟩ →
      vc Proofs.Tryz.prog none 64 cPg5 (endQ Proofs.Tryz.prog r18 K) ρ [] u := by
    intro ρ u hmu hx r1 r3
    have n2 : (pg2 r).length ≤ 9000 := by simp only [pg2, pg1, List.length_append]; omega
    simp only [rtV] at hx
    simp only [cPg5, subC, c18, vc_seq]
    refine draw_e (by kernel_rfl) (by kernel_rfl) (by kernel_rfl) (by kernel_rfl) ?_
    have e0 : Mod (fun _ => False) u u.drew := (Mod.refl _ _).drew
    simp only [vc_ret, thenQ_normal, upd_same, upd_other, updO_some, ev_tmp, ev_const, endQ_ret, endK, resK, packed, insVc, load1K, loadO_cells, loadV_some, faddrK, ne_eq, not_false_eq_true, Nat.reduceEqDiff, Nat.reduceAdd, Nat.reduceLeDiff, List.map_cons, List.map_nil, List.getElem?_cons_zero, List.getElem?_cons_succ, List.getElem?_toArray, List.length_cons, List.length_nil, List.nil_append, if_true, if_false, Bool.false_eq_true, Nat.zero_add, pureI, kindI, loadI, sopK_add, vcE_nil, vcE_cons, stepE_pure, stepE_load, stepE_step, r1, r3, hx]
    refine ⟨by omega, ?_⟩
    refine itoa_c r.pairs hr.p _ _ (ht.mod (hmu.trans e0)) ?_
    intro u1 hm1
    have e1 := e0.trans hm1
    refine ⟨e1, ?_⟩
    simp only [Nat.reduceAdd, Nat.reduceLeDiff, List.length_cons, List.length_nil, Nat.zero_add, sopK_add, List.length_append]
    refine ⟨by omega, by omega, ?_⟩
    refine num64_c r.bytes hr.b u1 _ (ht.mod (hmu.trans e1)) ?_
    intro u2 hm2
    have e2 := e1.trans hm2
    refine ⟨e2, ?_⟩
    simp only [Nat.reduceAdd, Nat.reduceLeDiff, List.length_cons, List.length_nil, Nat.zero_add, sopK_add, List.length_append]
    refine ⟨by omega, by omega, ?_⟩
    refine itoa_c r.depth hr.d u2 _ (ht.mod (hmu.trans e2)) ?_
    intro u3 hm3
    have e3 := e2.trans hm3
    refine ⟨e3, ?_⟩
    simp only [Nat.reduceAdd, Nat.reduceLeDiff, List.length_cons, List.length_nil, Nat.zero_add, sopK_add, List.length_append]
    refine ⟨by omega, by omega, ?_⟩
    have := h u3 (hmu.trans e3)
    simpa [pagesL, pgT] using this
  have s4 : ∀ (ρ : Env) (u : World), Mod (fun _ => False) w u → u.heap[w.heap.size]? = some (.cells (rtV r (.slice a1 r.tree.length c1) (.slice a2 r.chains.length c2) (.slice a3 r.ledger.length c3) (.slice a4 r.free.length c4) (.slice a5 r.lost.length c5) (.slice a6 r.twice.length c6)) 34 (0, 0)) → ρ 1 = ptr w.heap.size → ρ 3 = .string ⟨(pg1 r).toArray⟩ →
      vc Proofs.Tryz.prog none 64 cPg4 (endQ Proofs.Tryz.prog r18 K) ρ [] u := by
    intro ρ u hmu hx r1 r3
    have hx' := hx
    simp only [rtV] at hx
    have n2 : (pg1 r).length ≤ 4500 := by simp only [pg1, List.length_append]; omega
    rw [cPg4_s]
    by_cases hl : r.twice = []
    · have d : ¬ ((r.twice.length : Nat) : Int) > 0 := by rw [hl]; decide
      simp only [subC, c18, vc_skip, vc_seq, vc_cond, vc_ops, vcOps_nil, vcOps_cons, goL_apply, thenQ_normal, condP_false, upd_same, updO_some, ev_tmp, ev_const, insVc, load1K, loadO_cells, loadV_some, iopK, iopV, faddrK, lenLK, reduceCtorEq, List.getElem?_cons_zero, List.getElem?_cons_succ, List.getElem?_toArray, true_and, or_false, Nat.zero_add, decide_false, r1, hx, d]
      exact s5 _ u hmu hx' (by simp only [upd_other, ne_eq, not_false_eq_true, Nat.reduceEqDiff, r1]) (by simp only [upd_other, ne_eq, not_false_eq_true, Nat.reduceEqDiff, List.nil_append, List.cons_append, List.append_nil, r3, pg2, partP, if_pos hl, List.append_nil])
    · have d : ((r.twice.length : Nat) : Int) > 0 := by have := List.length_pos_iff.2 hl; omega
      simp only [subC, c18, vc_seq, vc_cond, vc_ops, vcOps_nil, vcOps_cons, goL_apply, thenQ_normal, condP_true, upd_same, upd_other, updO_some, ev_tmp, ev_const, insVc, load1K, loadO_cells, loadV_some, iopK, iopV, faddrK, lenLK, ne_eq, not_false_eq_true, Nat.reduceEqDiff, reduceCtorEq, List.map_cons, List.map_nil, List.getElem?_cons_zero, List.getElem?_cons_succ, List.getElem?_toArray, true_and, or_false, Nat.zero_add, decide_true, r1, r3, hx, d]
      refine list32_c r.twice _ u _ (ht.mod hmu) (hr.t6.keep hmu) (by omega) hr.g6 ?_
      intro u1 hm1
      simp only [vcOps_nil, vcOps_cons, goL_apply, thenQ_normal, upd_same, upd_other, updO_some, ev_tmp, ev_const, insVc, ne_eq, not_false_eq_true, Nat.reduceEqDiff, Nat.reduceAdd, List.length_cons, List.length_nil, List.nil_append, List.cons_append, Nat.zero_add, sopK_add]
      refine ⟨by omega, by omega, ?_⟩
      exact s5 _ u1 (hmu.trans hm1) (hm1.keep hx' id) (by simp only [upd_other, ne_eq, not_false_eq_true, Nat.reduceEqDiff, r1]) (by simp only [upd_same, List.nil_append, List.cons_append, pg2, partP, if_neg hl, List.cons_append, List.nil_append])
  have s3 : ∀ (ρ : Env) (u : World), Mod (fun _ => False) w u → u.heap[w.heap.size]? = some (.cells (rtV r (.slice a1 r.tree.length c1) (.slice a2 r.chains.length c2) (.slice a3 r.ledger.length c3) (.slice a4 r.free.length c4) (.slice a5 r.lost.length c5) (.slice a6 r.twice.length c6)) 34 (0, 0)) → ρ 1 = ptr w.heap.size → ρ 3 = .string ⟨(pg0 r).toArray⟩ →
      vc Proofs.Tryz.prog none 64 cPg3 (endQ Proofs.Tryz.prog r18 K) ρ [] u := by
    intro ρ u hmu hx r1 r3
    have hx' := hx
    simp only [rtV] at hx
    rw [cPg3_s]
    by_cases hl : r.lost = []
    · have d : ¬ ((r.lost.length : Nat) : Int) > 0 := by rw [hl]; decide
      simp only [subC, c18, vc_skip, vc_seq, vc_cond, vc_ops, vcOps_nil, vcOps_cons, goL_apply, thenQ_normal, condP_false, upd_same, updO_some, ev_tmp, ev_const, insVc, load1K, loadO_cells, loadV_some, iopK, iopV, faddrK, lenLK, reduceCtorEq, List.getElem?_cons_zero, List.getElem?_cons_succ, List.getElem?_toArray, true_and, or_false, Nat.zero_add, decide_false, r1, hx, d]
      exact s4 _ u hmu hx' (by simp only [upd_other, ne_eq, not_false_eq_true, Nat.reduceEqDiff, r1]) (by simp only [upd_other, ne_eq, not_false_eq_true, Nat.reduceEqDiff, List.nil_append, List.cons_append, List.append_nil, r3, pg1, partP, if_pos hl, List.append_nil])
    · have d : ((r.lost.length : Nat) : Int) > 0 := by have := List.length_pos_iff.2 hl; omega
      simp only [subC, c18, vc_seq, vc_cond, vc_ops, vcOps_nil, vcOps_cons, goL_apply, thenQ_normal, condP_true, upd_same, upd_other, updO_some, ev_tmp, ev_const, insVc, load1K, loadO_cells, loadV_some, iopK, iopV, faddrK, lenLK, ne_eq, not_false_eq_true, Nat.reduceEqDiff, reduceCtorEq, List.map_cons, List.map_nil, List.getElem?_cons_zero, List.getElem?_cons_succ, List.getElem?_toArray, true_and, or_false, Nat.zero_add, decide_true, r1, r3, hx, d]
      refine list32_c r.lost _ u _ (ht.mod hmu) (hr.t5.keep hmu) (by omega) hr.g5 ?_
      intro u1 hm1
      simp only [vcOps_nil, vcOps_cons, goL_apply, thenQ_normal, upd_same, upd_other, updO_some, ev_tmp, ev_const, insVc, ne_eq, not_false_eq_true, Nat.reduceEqDiff, Nat.reduceAdd, List.length_cons, List.length_nil, List.nil_append, List.cons_append, Nat.zero_add, sopK_add]
      refine ⟨by omega, by omega, ?_⟩
      exact s4 _ u1 (hmu.trans hm1) (hm1.keep hx' id) (by simp only [upd_other, ne_eq, not_false_eq_true, Nat.reduceEqDiff, r1]) (by simp only [upd_same, List.nil_append, List.cons_append, pg1, partP, if_neg hl, List.cons_append, List.nil_append])
  rw [cPg_s]
  simp only [rtV] at X
  simp only [subC, c18, vc_seq, vc_ops, vcOps_nil, vcOps_cons, goL_apply, thenQ_normal, updO_some, ev_tmp, ev_const, initE_at, insVc, Value.cells, Option.getD_some, List.getElem?_cons_zero, rtV]
  refine draw_e (by kernel_rfl) (by kernel_rfl) (by kernel_rfl) (by kernel_rfl) ?_
  simp only [rtV] at hm0
  obtain ⟨w1, hw1⟩ : ∃ w1, w1 = w.alloc (.cells #[.slice a1 r.tree.length c1, .slice a2 r.chains.length c2, .slice a3 r.ledger.length c3, .slice a4 r.free.length c4, .slice a5 r.lost.length c5, .slice a6 r.twice.length c6, .int .i64 r.pairs, .int .u64 r.bytes, .int .i64 r.depth] 34) := ⟨_, rfl⟩
  rw [← hw1] at X hm0 ⊢
  have e0 : Mod (fun _ => False) w1 w1.drew := (Mod.refl _ _).drew
  simp only [thenQ_normal, upd_same, upd_other, updO_some, ev_tmp, ev_const, insVc, load1K, loadO_cells, loadV_some, faddrK, lenLK, ne_eq, not_false_eq_true, Nat.reduceEqDiff, List.map_cons, List.map_nil, List.getElem?_cons_zero, List.getElem?_cons_succ, List.getElem?_toArray, if_true, if_false, Bool.false_eq_true, Nat.zero_add, Nat.add_zero, pureI, kindI, loadI, vcE_nil, vcE_cons, stepE_pure, stepE_load, stepE_step, X]
  refine numi_c r.tree.length (by omega) _ _ (ht.mod (hm0.trans e0)) ?_
  intro u1 hm1
  have e1 := e0.trans hm1
  refine ⟨e1, ?_⟩
  simp only [Nat.reduceAdd, Nat.reduceLeDiff, List.length_cons, List.length_nil, List.nil_append, List.cons_append, Nat.zero_add, sopK_add]
  refine ⟨by omega, by omega, ?_⟩
  refine numi_c r.chains.length (by omega) u1 _ (ht.mod (hm0.trans e1)) ?_
  intro u2 hm2
  have e2 := e1.trans hm2
  refine ⟨e2, ?_⟩
  simp only [Nat.reduceAdd, Nat.reduceLeDiff, List.length_cons, List.length_nil, List.cons_append, Nat.zero_add, sopK_add, List.length_append]
  refine ⟨by omega, by omega, ?_⟩
  refine numi_c r.ledger.length (by omega) u2 _ (ht.mod (hm0.trans e2)) ?_
  intro u3 hm3
  have e3 := e2.trans hm3
  refine ⟨e3, ?_⟩
  simp only [Nat.reduceAdd, Nat.reduceLeDiff, List.length_cons, List.length_nil, List.cons_append, Nat.zero_add, sopK_add, List.length_append]
  refine ⟨by omega, by omega, ?_⟩
  refine numi_c r.free.length (by omega) u3 _ (ht.mod (hm0.trans e3)) ?_
  intro u4 hm4
  have e4 := e3.trans hm4
  refine ⟨e4, ?_⟩
  simp only [Nat.reduceAdd, List.length_cons, List.length_nil, List.cons_append, Nat.zero_add, sopK_add, List.length_append]
  refine ⟨by omega, ?_⟩
  exact s3 _ u4 (hm0.trans e4) (e4.keep X id) (by simp only [upd_same, upd_other, ne_eq, not_false_eq_true, Nat.reduceEqDiff]) (by simp only [upd_same]; rfl)

noncomputable def cRg5 : CC := subC c19 [1, 1, 1, 1]
noncomputable def cRg4 : CC := subC c19 [1, 1, 1]
noncomputable def cRg3 : CC := subC c19 [1, 1]
theorem cRg_s : c19 = .seq (subC c19 [0]) (.seq (subC c19 [1, 0]) cRg3) := rfl
theorem cRg3_s : cRg3 = .seq (subC c19 [1, 1, 0]) cRg4 := rfl
theorem cRg4_s : cRg4 = .seq (subC c19 [1, 1, 1, 0]) cRg5 := rfl

theorem rlen_c (n : Nat) (hn : n ≤ 1000) (w : World) (K : Value → World → Prop) (h : ∀ w', Mod (fun _ => False) w w' → K (.string ⟨(Lib.decDigits n).toArray⟩) w') : Ok Proofs.Tryz.prog 32 #[.int .i64 n] w K := by
  refine rsigned_c (n : Int) ⟨by omega, by omega⟩ w K ?_
  rw [Lib.itoa_nonneg]; exact h

theorem rpages_c (r : Rt) (v1 v2 v3 v4 v5 v6 : Value) (hs : r.small) (w : World) (K : Value → World → Prop) (hr : IsRt w v1 v2 v3 v4 v5 v6 r)
    (h : ∀ w', Mod (fun _ => False) w w' → K (.string ⟨(pagesL r).toArray⟩) w') : Ok Proofs.Tryz.prog 19 #[v1, v2, v3, v4, v5, v6, .int .i64 r.pairs, .int .u64 r.bytes, .int .i64 r.depth] w K := by
  have n0 := pg0_len r hs
  have n5 := partP_len [44, 32, 108, 111, 115, 116, 32] r.lost (by decide) hs.l5 hr.g5
  have n6 := partP_len [44, 32, 116, 119, 105, 99, 101, 32] r.twice (by decide) hs.l6 hr.g6
  have q5 : ∀ n ∈ r.lost, n < 2 ^ 64 := fun n hn => by have := hr.g5 n hn; unfold lt32 at this; omega
  have q6 : ∀ n ∈ r.twice, n < 2 ^ 64 := fun n hn => by have := hr.g6 n hn; unfold lt32 at this; omega
  have l5 := listL_len r.lost q5
  have l6 := listL_len r.twice q6
  have k1 := hs.l1
  have k2 := hs.l2
  have k3 := hs.l3
  have k4 := hs.l4
  have k5 := hs.l5
  have k6 := hs.l6
  have i1 := Lib.itoa_length_le r.pairs hr.p.1 hr.p.2
  have i2 := Lib.itoa_length_le r.depth hr.d.1 hr.d.2
  have i3 := dec_len r.bytes hr.b
  have d1 := dec_len r.tree.length (by omega)
  have d2 := dec_len r.chains.length (by omega)
  have d3 := dec_len r.ledger.length (by omega)
  have d4 := dec_len r.free.length (by omega)
  obtain ⟨⟨a1, c1, rfl⟩, _⟩ := id hr.t1
  obtain ⟨⟨a2, c2, rfl⟩, _⟩ := id hr.t2
  obtain ⟨⟨a3, c3, rfl⟩, _⟩ := id hr.t3
  obtain ⟨⟨a4, c4, rfl⟩, _⟩ := id hr.t4
  obtain ⟨⟨a5, c5, rfl⟩, _⟩ := id hr.t5
  obtain ⟨⟨a6, c6, rfl⟩, _⟩ := id hr.t6
  refine F19.enter (args := [.slice a1 r.tree.length c1, .slice a2 r.chains.length c2, .slice a3 r.ledger.length c3, .slice a4 r.free.length c4, .slice a5 r.lost.length c5, .slice a6 r.twice.length c6, .int .i64 r.pairs, .int .u64 r.bytes, .int .i64 r.depth]) (by simp) ?_
  have s5 : ∀ (ρ : Env) (u : World), Mod (fun _ => False) w u → ρ 6 = .int .i64 r.pairs → ρ 7 = .int .u64 r.bytes → ρ 8 = .int .i64 r.depth → ρ 19 = .string ⟨(pg2 r).toArray⟩ →
      vc Proofs.Tryz.prog none 71 cRg5 (endQ Proofs.Tryz.prog r19 K) ρ [] u := by
    intro ρ u hmu r6 r7 r8 r19
    have n2 : (pg2 r).length ≤ 9000 := by simp only [pg2, pg1, List.length_append]; omega
    simp only [cRg5, subC, c19, vc_seq, vc_ops, vcOps_cons, goL_apply, upd_same, upd_other, updO_some, ev_tmp, ev_const, insVc, ne_eq, not_false_eq_true, Nat.reduceEqDiff, Nat.reduceAdd, Nat.reduceLeDiff, List.map_cons, List.map_nil, List.length_cons, List.length_nil, Nat.zero_add, sopK_add, r6, r19]
    refine ⟨by omega, ?_⟩
    refine rsigned_c r.pairs hr.p u _ ?_
    intro u1 hm1
    simp only [vcOps_cons, goL_apply, upd_same, upd_other, updO_some, ev_tmp, ev_const, insVc, ne_eq, not_false_eq_true, Nat.reduceEqDiff, Nat.reduceAdd, Nat.reduceLeDiff, List.map_cons, List.map_nil, List.length_cons, List.length_nil, Nat.zero_add, sopK_add, r7, List.length_append]
    refine ⟨by omega, by omega, ?_⟩
    refine rdec_c r.bytes hr.b u1 _ ?_
    intro u2 hm2
    simp only [vcOps_cons, goL_apply, upd_same, upd_other, updO_some, ev_tmp, ev_const, insVc, ne_eq, not_false_eq_true, Nat.reduceEqDiff, Nat.reduceAdd, Nat.reduceLeDiff, List.map_cons, List.map_nil, List.length_cons, List.length_nil, Nat.zero_add, sopK_add, r8, List.length_append]
    refine ⟨by omega, by omega, ?_⟩
    refine rsigned_c r.depth hr.d u2 _ ?_
    intro u3 hm3
    simp only [vc_ret, vcOps_nil, vcOps_cons, goL_apply, thenQ_normal, upd_same, upd_other, updO_some, ev_tmp, ev_const, endQ_ret, endK, resK, packed, insVc, ne_eq, not_false_eq_true, Nat.reduceEqDiff, Nat.reduceAdd, Nat.reduceLeDiff, List.length_cons, List.length_nil, List.nil_append, Nat.zero_add, sopK_add, List.length_append]
    refine ⟨by omega, by omega, ?_⟩
    have := h u3 (((hmu.trans hm1).trans hm2).trans hm3)
    simpa [pagesL, pgT] using this
  have s4 : ∀ (ρ : Env) (u : World), Mod (fun _ => False) w u → ρ 5 = .slice a6 r.twice.length c6 → ρ 6 = .int .i64 r.pairs → ρ 7 = .int .u64 r.bytes → ρ 8 = .int .i64 r.depth → ρ 19 = .string ⟨(pg1 r).toArray⟩ →
      vc Proofs.Tryz.prog none 71 cRg4 (endQ Proofs.Tryz.prog r19 K) ρ [] u := by
    intro ρ u hmu r5 r6 r7 r8 r19
    have n2 : (pg1 r).length ≤ 4500 := by simp only [pg1, List.length_append]; omega
    rw [cRg4_s]
    by_cases hl : r.twice = []
    · have d : ¬ ((r.twice.length : Nat) : Int) > 0 := by rw [hl]; decide
      simp only [subC, c19, vc_skip, vc_seq, vc_cond, vc_ops, vcOps_nil, vcOps_cons, goL_apply, thenQ_normal, condP_false, upd_same, updO_some, ev_tmp, ev_const, insVc, loadV_some, iopK, iopV, lenLK, reduceCtorEq, true_and, or_false, decide_false, r5, d]
      exact s5 _ u hmu (by simp only [upd_other, ne_eq, not_false_eq_true, Nat.reduceEqDiff, r6]) (by simp only [upd_other, ne_eq, not_false_eq_true, Nat.reduceEqDiff, r7]) (by simp only [upd_other, ne_eq, not_false_eq_true, Nat.reduceEqDiff, r8]) (by simp only [upd_other, ne_eq, not_false_eq_true, Nat.reduceEqDiff, List.nil_append, List.cons_append, List.append_nil, r19, pg2, partP, if_pos hl, List.append_nil])
    · have d : ((r.twice.length : Nat) : Int) > 0 := by have := List.length_pos_iff.2 hl; omega
      simp only [subC, c19, vc_seq, vc_cond, vc_ops, vcOps_nil, vcOps_cons, goL_apply, thenQ_normal, condP_true, upd_same, upd_other, updO_some, ev_tmp, ev_const, insVc, loadV_some, iopK, iopV, lenLK, ne_eq, not_false_eq_true, Nat.reduceEqDiff, Nat.reduceAdd, Nat.reduceLeDiff, reduceCtorEq, List.map_cons, List.map_nil, List.length_cons, List.length_nil, true_and, or_false, Nat.zero_add, decide_true, sopK_add, r5, r19, d]
      refine ⟨by omega, ?_⟩
      refine rwide_c r.twice _ u _ (hr.t6.keep hmu) (by omega) hr.g6 ?_
      intro u1 v' hm1 hv'
      simp only [vcOps_cons, goL_apply, upd_same, updO_some, ev_tmp, insVc, List.map_cons, List.map_nil]
      refine rlist_c r.twice _ u1 _ hv' (by omega) q6 ?_
      intro u2 hm2
      simp only [vcOps_nil, vcOps_cons, goL_apply, thenQ_normal, upd_same, upd_other, updO_some, ev_tmp, insVc, ne_eq, not_false_eq_true, Nat.reduceEqDiff, Nat.reduceAdd, List.length_cons, List.length_nil, Nat.zero_add, sopK_add, List.length_append]
      refine ⟨by omega, ?_⟩
      exact s5 _ u2 ((hmu.trans hm1).trans hm2) (by simp only [upd_other, ne_eq, not_false_eq_true, Nat.reduceEqDiff, r6]) (by simp only [upd_other, ne_eq, not_false_eq_true, Nat.reduceEqDiff, r7]) (by simp only [upd_other, ne_eq, not_false_eq_true, Nat.reduceEqDiff, r8]) (by simp only [upd_same, List.nil_append, List.cons_append, pg2, partP, if_neg hl]; simp)
  have s3 : ∀ (ρ : Env) (u : World), Mod (fun _ => False) w u → ρ 4 = .slice a5 r.lost.length c5 → ρ 5 = .slice a6 r.twice.length c6 → ρ 6 = .int .i64 r.pairs → ρ 7 = .int .u64 r.bytes → ρ 8 = .int .i64 r.depth → ρ 19 = .string ⟨(pg0 r).toArray⟩ →
      vc Proofs.Tryz.prog none 71 cRg3 (endQ Proofs.Tryz.prog r19 K) ρ [] u := by
    intro ρ u hmu r4' r5 r6 r7 r8 r19
    rw [cRg3_s]
    by_cases hl : r.lost = []
    · have d : ¬ ((r.lost.length : Nat) : Int) > 0 := by rw [hl]; decide
      simp only [subC, c19, vc_skip, vc_seq, vc_cond, vc_ops, vcOps_nil, vcOps_cons, goL_apply, thenQ_normal, condP_false, upd_same, updO_some, ev_tmp, ev_const, insVc, loadV_some, iopK, iopV, lenLK, reduceCtorEq, true_and, or_false, decide_false, r4', d]
      exact s4 _ u hmu (by simp only [upd_other, ne_eq, not_false_eq_true, Nat.reduceEqDiff, r5]) (by simp only [upd_other, ne_eq, not_false_eq_true, Nat.reduceEqDiff, r6]) (by simp only [upd_other, ne_eq, not_false_eq_true, Nat.reduceEqDiff, r7]) (by simp only [upd_other, ne_eq, not_false_eq_true, Nat.reduceEqDiff, r8]) (by simp only [upd_other, ne_eq, not_false_eq_true, Nat.reduceEqDiff, List.nil_append, List.cons_append, List.append_nil, r19, pg1, partP, if_pos hl, List.append_nil])
    · have d : ((r.lost.length : Nat) : Int) > 0 := by have := List.length_pos_iff.2 hl; omega
      simp only [subC, c19, vc_seq, vc_cond, vc_ops, vcOps_nil, vcOps_cons, goL_apply, thenQ_normal, condP_true, upd_same, upd_other, updO_some, ev_tmp, ev_const, insVc, loadV_some, iopK, iopV, lenLK, ne_eq, not_false_eq_true, Nat.reduceEqDiff, Nat.reduceAdd, Nat.reduceLeDiff, reduceCtorEq, List.map_cons, List.map_nil, List.length_cons, List.length_nil, true_and, or_false, Nat.zero_add, decide_true, sopK_add, r4', r19, d]
      refine ⟨by omega, ?_⟩
      refine rwide_c r.lost _ u _ (hr.t5.keep hmu) (by omega) hr.g5 ?_
      intro u1 v' hm1 hv'
      simp only [vcOps_cons, goL_apply, upd_same, updO_some, ev_tmp, insVc, List.map_cons, List.map_nil]
      refine rlist_c r.lost _ u1 _ hv' (by omega) q5 ?_
      intro u2 hm2
      simp only [vcOps_nil, vcOps_cons, goL_apply, thenQ_normal, upd_same, upd_other, updO_some, ev_tmp, insVc, ne_eq, not_false_eq_true, Nat.reduceEqDiff, Nat.reduceAdd, List.length_cons, List.length_nil, Nat.zero_add, sopK_add, List.length_append]
      refine ⟨by omega, ?_⟩
      exact s4 _ u2 ((hmu.trans hm1).trans hm2) (by simp only [upd_other, ne_eq, not_false_eq_true, Nat.reduceEqDiff, r5]) (by simp only [upd_other, ne_eq, not_false_eq_true, Nat.reduceEqDiff, r6]) (by simp only [upd_other, ne_eq, not_false_eq_true, Nat.reduceEqDiff, r7]) (by simp only [upd_other, ne_eq, not_false_eq_true, Nat.reduceEqDiff, r8]) (by simp only [upd_same, List.nil_append, List.cons_append, pg1, partP, if_neg hl]; simp)
  rw [cRg_s]
  simp only [subC, c19, vc_seq, vc_ops, vcOps_nil, vcOps_cons, goL_apply, thenQ_normal, upd_same, upd_other, updO_some, ev_tmp, ev_const, initE_at, insVc, lenLK, ne_eq, not_false_eq_true, reduceCtorEq, Option.getD_some, List.map_cons, List.map_nil, List.getElem?_cons_zero]
  refine rlen_c r.tree.length (by omega) _ _ ?_
  intro u1 hm1
  simp only [vcOps_cons, goL_apply, upd_same, upd_other, updO_some, ev_tmp, ev_const, initE_at, insVc, lenLK, ne_eq, not_false_eq_true, Nat.reduceEqDiff, Nat.reduceAdd, Nat.reduceLeDiff, Option.getD_some, List.map_cons, List.map_nil, List.getElem?_cons_zero, List.getElem?_cons_succ, List.length_cons, List.length_nil, List.nil_append, List.cons_append, Nat.zero_add, sopK_add]
  refine ⟨by omega, by omega, ?_⟩
  refine rlen_c r.chains.length (by omega) _ _ ?_
  intro u2 hm2
  simp only [vcOps_cons, goL_apply, upd_same, upd_other, updO_some, ev_tmp, ev_const, initE_at, insVc, lenLK, ne_eq, not_false_eq_true, Nat.reduceEqDiff, Nat.reduceAdd, Nat.reduceLeDiff, Option.getD_some, List.map_cons, List.map_nil, List.getElem?_cons_zero, List.getElem?_cons_succ, List.length_cons, List.length_nil, List.cons_append, Nat.zero_add, sopK_add, List.length_append]
  refine ⟨by omega, by omega, ?_⟩
  refine rlen_c r.ledger.length (by omega) _ _ ?_
  intro u3 hm3
  simp only [vcOps_cons, goL_apply, upd_same, upd_other, updO_some, ev_tmp, ev_const, initE_at, insVc, lenLK, ne_eq, not_false_eq_true, Nat.reduceEqDiff, Nat.reduceAdd, Nat.reduceLeDiff, Option.getD_some, List.map_cons, List.map_nil, List.getElem?_cons_zero, List.getElem?_cons_succ, List.length_cons, List.length_nil, List.cons_append, Nat.zero_add, sopK_add, List.length_append]
  refine ⟨by omega, by omega, ?_⟩
  refine rlen_c r.free.length (by omega) _ _ ?_
  intro u4 hm4
  simp only [vcOps_nil, vcOps_cons, goL_apply, thenQ_normal, upd_same, upd_other, updO_some, ev_tmp, insVc, ne_eq, not_false_eq_true, Nat.reduceEqDiff, Nat.reduceAdd, List.length_cons, List.length_nil, List.cons_append, Nat.zero_add, sopK_add, List.length_append]
  refine ⟨by omega, ?_⟩
  exact s3 _ u4 (((hm1.trans hm2).trans hm3).trans hm4) (by simp only [upd_other, initE_at, ne_eq, not_false_eq_true, Nat.reduceEqDiff, Option.getD_some, List.getElem?_cons_zero, List.getElem?_cons_succ]) (by simp only [upd_other, initE_at, ne_eq, not_false_eq_true, Nat.reduceEqDiff, Option.getD_some, List.getElem?_cons_zero, List.getElem?_cons_succ]) (by simp only [upd_other, initE_at, ne_eq, not_false_eq_true, Nat.reduceEqDiff, Option.getD_some, List.getElem?_cons_zero, List.getElem?_cons_succ]) (by simp only [upd_other, initE_at, ne_eq, not_false_eq_true, Nat.reduceEqDiff, Option.getD_some, List.getElem?_cons_zero, List.getElem?_cons_succ]) (by simp only [upd_other, initE_at, ne_eq, not_false_eq_true, Nat.reduceEqDiff, Option.getD_some, List.getElem?_cons_zero, List.getElem?_cons_succ]) (by simp only [upd_same]; rfl)
end Go.Oct
