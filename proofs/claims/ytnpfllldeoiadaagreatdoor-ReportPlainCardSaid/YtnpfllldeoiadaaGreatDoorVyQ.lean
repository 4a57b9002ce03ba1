import Derived.Test.YtnpfllldeoiadaaGreatDoorVyN
set_option linter.unusedSimpArgs false
set_option linter.unusedVariables false
set_option linter.unusedSectionVars false
set_option linter.unnecessarySimpa false
namespace Go.Oct
open Go Go.Vc
set_option maxRecDepth 100000

/-! ### reports are plain, and their lines are counted -/

def Pl (s : List UInt8) (k : Nat) : Prop := (∀ d ∈ s, plainB d = true) ∧ s.count 10 = k
theorem Pl.app {a b : List UInt8} {i j : Nat} (h1 : Pl a i) (h2 : Pl b j) : Pl (a ++ b) (i + j) :=
  ⟨fun d hd => (List.mem_append.1 hd).elim (h1.1 d) (h2.1 d), by rw [List.count_append, h1.2, h2.2]⟩
theorem Pl.of_seen {s : List UInt8} (h : ∀ d ∈ s, seen d = true) : Pl s 0 :=
  ⟨fun d hd => by simp only [plainB, h d hd, Bool.or_true], List.count_eq_zero.2 fun hm => by have := h 10 hm; exact absurd this (by decide)⟩
theorem Pl.seen_all {s : List UInt8} (h : s.all seen = true) : Pl s 0 := .of_seen (List.all_eq_true.1 h)
theorem Pl.nl : Pl [10] 1 := ⟨fun d hd => by rw [List.mem_singleton.1 hd]; decide, rfl⟩
theorem Pl.nil : Pl [] 0 := ⟨fun d hd => by simp at hd, rfl⟩
theorem Pl.rows {α : Type} (f : α → List UInt8) (l : List α) (h : ∀ x ∈ l, ∀ d ∈ f x, seen d = true) : Pl (rowsL f l) l.length := by
  induction l with
  | nil => exact Pl.nil
  | cons x l ih =>
    have h1 := ((Pl.of_seen (h x List.mem_cons_self)).app Pl.nl).app (ih (fun y hy => h y (List.mem_cons_of_mem _ hy)))
    have e : rowsL f (x :: l) = (f x ++ [10]) ++ rowsL f l := by simp only [rowsL, List.flatMap_cons]
    rw [e, List.length_cons]
    have e2 : 0 + 1 + l.length = l.length + 1 := by omega
    rw [e2] at h1
    exact h1
theorem Pl.ten {s : List UInt8} {k : Nat} (h : Pl s k) : ∀ c ∈ s, c.toNat = 10 ∨ (32 ≤ c.toNat ∧ c.toNat ≤ 126) := by
  intro c hc
  have := h.1 c hc
  simp only [plainB, seen, Bool.or_eq_true, Bool.and_eq_true, decide_eq_true_eq, UInt8.le_iff_toNat_le, ← UInt8.toNat_inj] at this
  exact this

theorem until_seen (n : Nat) : ∀ d ∈ untilL n, seen d = true := by
  unfold untilL
  split
  · exact List.all_eq_true.1 (by decide)
  · exact dec_seen n
theorem msgL_seen (m : Ms) : ∀ d ∈ msgL m, seen d = true := by
  refine join_seen ?_
  intro x hx
  simp only [msgW, List.mem_cons, List.not_mem_nil, or_false] at hx
  rcases hx with rfl | rfl | rfl | rfl | rfl | rfl | rfl | rfl | rfl
  · exact List.all_eq_true.1 (by decide)
  · exact quoteL_seen _
  · intro d hd
    rcases List.mem_cons.1 hd with rfl | hd
    · decide
    · exact dec_seen _ d hd
  · exact List.all_eq_true.1 (by decide)
  · exact dec_seen _
  · exact List.all_eq_true.1 (by decide)
  · exact until_seen _
  · exact dec_seen _
  · exact List.all_eq_true.1 (by decide)
theorem quL_seen (q : Qu) : ∀ d ∈ quL q, seen d = true := by
  refine join_seen ?_
  intro x hx
  simp only [quW, List.mem_cons, List.not_mem_nil, or_false] at hx
  rcases hx with rfl | rfl | rfl | rfl | rfl | rfl | rfl | rfl | rfl | rfl
  · exact List.all_eq_true.1 (by decide)
  · exact quoteL_seen _
  · exact List.all_eq_true.1 (by decide)
  · exact dec_seen _
  · exact List.all_eq_true.1 (by decide)
  · exact dec_seen _
  · exact List.all_eq_true.1 (by decide)
  · exact dec_seen _
  · exact List.all_eq_true.1 (by decide)
  · exact quoteL_seen _
theorem kindL_seen (k : Int) : ∀ d ∈ kindL k, seen d = true := by
  unfold kindL
  split
  · exact List.all_eq_true.1 (by decide)
  split
  · exact List.all_eq_true.1 (by decide)
  split
  · exact List.all_eq_true.1 (by decide)
  · intro d hd
    rcases List.mem_append.1 hd with hd | hd
    · exact List.all_eq_true.1 (by decide : ([107, 105, 110, 100] : List UInt8).all seen = true) d hd
    · exact itoa_seen _ d hd
theorem bdL_seen (b : Bd) : ∀ d ∈ bdL b, seen d = true := by
  refine join_seen ?_
  intro x hx
  simp only [bdW, List.mem_cons, List.not_mem_nil, or_false] at hx
  rcases hx with rfl | rfl | rfl | rfl | rfl | rfl
  · exact List.all_eq_true.1 (by decide)
  · exact quoteL_seen _
  · exact kindL_seen _
  · exact quoteL_seen _
  · exact List.all_eq_true.1 (by decide)
  · exact quoteL_seen _

theorem dumpL_pl (d : Du) : Pl (dumpL d) (d.qs.length + d.bs.length + d.ms.length + 1) := by
  have h := (((((((Pl.seen_all (s := [99, 108, 111, 99, 107, 32]) (by decide)).app (.of_seen (dec_seen d.clock))).app (Pl.seen_all (s := [32, 108, 97, 115, 116, 32]) (by decide))).app (.of_seen (dec_seen d.last))).app Pl.nl).app
    (.rows quL d.qs (fun x _ => quL_seen x))).app (.rows bdL d.bs (fun x _ => bdL_seen x))).app (.rows msgL d.ms (fun x _ => msgL_seen x))
  have e2 : 0 + 0 + 0 + 0 + 1 + d.qs.length + d.bs.length + d.ms.length = d.qs.length + d.bs.length + d.ms.length + 1 := by omega
  rw [e2] at h
  exact h

theorem partP_pl (wd : List UInt8) (l : List Nat) (h : wd.all seen = true) : Pl (partP wd l) 0 := by
  unfold partP
  split
  · exact Pl.nil
  · exact (Pl.seen_all h).app (.of_seen (listL_seen l))
theorem pagesL_pl (r : Rt) : Pl (pagesL r) 2 := by
  have h0 : Pl (pg0 r) 0 := ((((((((Pl.seen_all (by decide)).app (.of_seen (dec_seen _))).app (Pl.seen_all (by decide))).app (.of_seen (dec_seen _))).app (Pl.seen_all (by decide))).app (.of_seen (dec_seen _))).app (Pl.seen_all (by decide))).app (.of_seen (dec_seen _)))
  have h2 : Pl (pg2 r) 0 := (h0.app (partP_pl _ _ (by decide))).app (partP_pl _ _ (by decide))
  have a1 : Pl ([10, 112, 97, 105, 114, 115, 58, 32] : List UInt8) 1 := Pl.nl.app (Pl.seen_all (s := [112, 97, 105, 114, 115, 58, 32]) (by decide))
  have a2 : Pl ([32, 100, 101, 101, 112, 10] : List UInt8) 1 := (Pl.seen_all (s := [32, 100, 101, 101, 112]) (by decide)).app Pl.nl
  have h3 : Pl (pgT r) 2 := (((((a1.app (.of_seen (itoa_seen _))).app (Pl.seen_all (by decide))).app (.of_seen (dec_seen _))).app (Pl.seen_all (by decide))).app (.of_seen (itoa_seen _))).app a2
  exact h2.app h3

theorem partL_pl (wd : List UInt8) (l : List Nat) (h : wd.all seen = true) : Pl (partL wd l) 0 := by
  unfold partL
  split
  · exact Pl.nil
  · exact (Pl.seen_all (s := [32]) (by decide)).app ((Pl.seen_all h).app ((Pl.seen_all (s := [32]) (by decide)).app (.of_seen (listL_seen l))))
theorem mLinesL_pl (l : List Ms) : Pl (mLinesL l) l.length := by
  induction l with
  | nil => exact Pl.nil
  | cons m l ih =>
    have h1 := ((Pl.nl.app (Pl.seen_all (s := [32, 32]) (by decide))).app (.of_seen (msgL_seen m))).app ih
    have e : mLinesL (m :: l) = (([10] ++ [32, 32]) ++ msgL m) ++ mLinesL l := by simp [mLinesL]
    rw [e, List.length_cons]
    have e2 : 1 + 0 + 0 + l.length = l.length + 1 := by omega
    rw [e2] at h1
    exact h1
theorem replyL_pl (r : Ry) : Pl (replyL r) (if r.err ≠ 0 then 0 else r.list.length) := by
  unfold replyL
  split
  · exact (Pl.seen_all (by decide)).app (.of_seen (itoa_seen _))
  · have h0 : Pl (preL r 0) 0 := (Pl.seen_all (s := [111, 107, 32]) (by decide)).app (.of_seen (dec_seen r.n))
    have st : ∀ i, i < 3 → Pl (preL r i) 0 → Pl (preL r (i + 1)) 0 := by
      intro i hi hp
      rw [preL_succ r i hi]
      refine hp.app (partL_pl _ _ ?_)
      unfold wdR
      split
      · decide
      split <;> decide
    have h3 := st 2 (by decide) (st 1 (by decide) (st 0 (by decide) h0))
    have := h3.app (mLinesL_pl r.list)
    rw [Nat.zero_add] at this
    exact this
theorem replyL_ten (r : Ry) : ∀ c ∈ replyL r, c.toNat = 10 ∨ (32 ≤ c.toNat ∧ c.toNat ≤ 126) := (replyL_pl r).ten
theorem replyL_lines (r : Ry) (h : r.err = 0) : (replyL r).count 10 = r.list.length := by
  have := (replyL_pl r).2
  rw [if_neg (by simp [h])] at this
  exact this

theorem replyL_len {w : World} {v1 v2 v3 v4 : Value} {r : Ry} (h : IsRy w v1 v2 v3 v4 r) (hs : r.small) : (replyL r).length ≤ 2000000 := by
  have h1 := preL_len h hs 3 (Nat.le_refl _)
  have h2 := mLinesL_len r.list hs.g
  have h3 := hs.l4
  have h4 := Lib.itoa_length_le r.err h.e.1 h.e.2
  unfold replyL
  split
  · rw [List.length_append]; simp only [List.length_cons, List.length_nil]; omega
  · rw [List.length_append]; omega
theorem dumpL_len {w : World} {v1 v2 v3 : Value} {d : Du} (h : IsDu w v1 v2 v3 d) (hs : d.small) : (dumpL d).length ≤ 7000000 := by
  have hh := headD_len d h
  have n1 := rows_small quL d.qs hs.l1 (fun x hx => quL_len x (hs.g1 x hx))
  have n2 := rows_small bdL d.bs hs.l2 (fun x hx => bdL_len x (hs.g2 x hx))
  have n3 := rows_small msgL d.ms hs.l3 (fun x hx => by have := msgL_len x (hs.g3 x hx); omega)
  unfold dumpL
  rw [List.length_append, List.length_append, List.length_append]; omega
theorem pagesL_len {w : World} {v1 v2 v3 v4 v5 v6 : Value} {r : Rt} (h : IsRt w v1 v2 v3 v4 v5 v6 r) (hs : r.small) : (pagesL r).length ≤ 9000 := by
  have n0 := pg0_len r hs
  have n5 := partP_len [44, 32, 108, 111, 115, 116, 32] r.lost (by decide) hs.l5 h.g5
  have n6 := partP_len [44, 32, 116, 119, 105, 99, 101, 32] r.twice (by decide) hs.l6 h.g6
  have d1 := dec_len r.bytes h.b
  have d2 := Lib.itoa_length_le r.pairs h.p.1 h.p.2
  have d3 := Lib.itoa_length_le r.depth h.d.1 h.d.2
  simp only [pagesL, pg2, pg1, pgT, List.length_append, List.length_cons, List.length_nil]; omega
end Go.Oct

namespace Go.Oct
open Go Go.Vc Go.VrA Go.VrB Go.VrD
set_option maxRecDepth 100000

/-! ### ReportPlain: the lines -/

theorem lines_c (l : List UInt8) (w : World) (K : Value → World → Prop) (h : K (.int .i64 (l.count 10)) w) : Ok Proofs.Tryz.prog 20 #[.string ⟨l.toArray⟩] w K := by
  refine F20.enter (args := [.string ⟨l.toArray⟩]) (by simp) ?_
  unfold c20 r20
  simp only [vc_seq, vc_ops, vcOps_nil, vcOps_cons, goL_apply, thenQ_normal, upd_same, upd_other, updO_some, ev_tmp, ev_const, initE_at, insVc, ne_eq, not_false_eq_true, reduceCtorEq, Option.getD_some, List.map_cons, List.map_nil, List.getElem?_cons_zero]
  refine ok_of_calls (by kernel_rfl) (Go.Proofs.Tryz.strings_Count_one ⟨l.toArray⟩ 10 w) ?_
  rintro e w' ⟨rfl, rfl⟩
  refine ⟨_, rfl, ?_⟩
  simp only [vc_ret, vcOps_nil, vcOps_cons, goL_apply, thenQ_normal, upd_same, updO_some, ev_tmp, endQ_ret, endK, resK, packed, insVc, List.nil_append]
  exact h

noncomputable def cRP6 : CC := subC c4 [1, 1, 1, 1, 1, 1]
noncomputable def cRP4 : CC := subC c4 [1, 1, 1, 1]
noncomputable def cRP3 : CC := subC c4 [1, 1, 1]
theorem cRP_s : c4 = .seq (subC c4 [0]) (.seq (subC c4 [1, 0]) (.seq (subC c4 [1, 1, 0]) cRP3)) := rfl
theorem cRP3_s : cRP3 = .seq (subC c4 [1, 1, 1, 0]) cRP4 := rfl
theorem cRP4_s : cRP4 = .seq (subC c4 [1, 1, 1, 1, 0]) (.seq (subC c4 [1, 1, 1, 1, 1, 0]) cRP6) := rfl

section
variable {r : Ry} {d : Du} {c : Rt} {v1 v2 v3 v4 y1 y2 y3 z1 z2 z3 z4 z5 z6 : Value} {w : World} {K : Value → World → Prop}

theorem rp6_c (ht : Tab w) (hr : IsRy w v1 v2 v3 v4 r) (hd : IsDu w y1 y2 y3 d) (hc : IsRt w z1 z2 z3 z4 z5 z6 c) (sr : r.small) (sd : d.small) (sc : c.small)
    (h : ∀ w', Mod (fun _ => False) w w' → K (.bool true) w') (ρ : Env) (u : World) (S : RLst r d c v1 v2 v3 v4 y1 y2 y3 z1 z2 z3 z4 z5 z6 w u ρ)
    (g10 : ρ 10 = .int .i64 ((d.qs.length + d.bs.length + d.ms.length : Nat) : Int)) (g11 : ρ 11 = .func (.func 20) #[] #[]) : vc Proofs.Tryz.prog none 102 cRP6 (endQ Proofs.Tryz.prog r4 K) ρ [] u := by
  obtain ⟨hmu, xr, xd, xc, r3, r4', r5⟩ := S
  obtain ⟨⟨a, cp, hve⟩, _⟩ := id hr.list
  have k1 := sd.l1
  have k2 := sd.l2
  have k3 := sd.l3
  have hw1 : IntKind.i64.wrap (((d.qs.length + d.bs.length + d.ms.length : Nat) : Int) + 1) = ((d.qs.length + d.bs.length + d.ms.length + 1 : Nat) : Int) := by rw [wrap_i64 _ (by omega)]; omega
  have hdl := (dumpL_pl d).2
  have hpl : ((List.count 10 (pagesL c) : Nat) : Int) = 2 := by rw [(pagesL_pl c).2]; rfl
  have hxr := xr
  rw [hve] at hxr
  simp only [cRP6, subC, c4, vc_seq]
  refine draw_e (by kernel_rfl) (by kernel_rfl) (by kernel_rfl) (by kernel_rfl) ?_
  have e0 : Mod (fun _ => False) u u.drew := (Mod.refl _ _).drew
  have m0 := hmu.trans e0
  try simp only [vc_ret, gate_true, thenQ_normal, upd_same, upd_other, updO_some, ev_tmp, ev_const, endQ_ret, endK, resK, packed, insVc, pickK, loadV_some, loadNK, loadNO_cells, iopK, iopV, callvK, ne_eq, not_false_eq_true, Nat.reduceEqDiff, Nat.reduceAdd, Nat.reduceLeDiff, reduceCtorEq, List.map_cons, List.map_nil, List.size_toArray, List.length_cons, List.length_nil, List.nil_append, List.append_nil, true_and, or_false, if_true, if_false, Bool.false_eq_true, Nat.zero_add, List.extract_toArray, List.extract_eq_take_drop, List.drop_zero, List.take_zero, List.take_succ_cons, Nat.sub_zero, pureI, kindI, loadI, vcE_nil, vcE_cons, vcE_gate, stepE_pure, stepE_load, stepE_step, g10, g11, r4', xd]
  refine dump_c d y1 y2 y3 sd u.drew _ (ht.mod m0) (hd.keep m0) ?_
  intro u1 h1
  have e1 := e0.trans h1
  have m1 := hmu.trans e1
  refine ⟨e1, ?_⟩
  try simp only [vc_skip, vc_seq, vc_cond, vc_block, vc_exit, vc_ret, vc_ops, vcOps_nil, vcOps_cons, vcOps_gate, gateK_true, gateK_false, gate_true, gate_false, gate_undef, goL_apply, thenQ_normal, thenQ_ret, thenQ_exit, blockQ_normal, blockQ_ret, blockQ_same, blockQ_exit, condP_true, condP_false, upd_same, upd_other, updO_some, updO_none, ev_tmp, ev_const, ev_global, ev_func, endQ_ret, endQ_normal, endK, resK, resN, res1, resO_cells, resNO_cells, packed, initE_at, insVc, pickK, load1K, loadO_cells, loadV_some, loadV_none, loadNK, loadNO_cells, storeK, storeO_cells, storeNK, storeNO_cells, setMany, nilK, nilM, iopK, iopV, bopK, nilOf, pnilK, notK, convK, sameK, faddrK, fld1K, fldNK, iaddrK, iaddrAK, sidxK, extK, lenSK, lenLK, callvK, invK, buildK, fillL, buildSK, boundOf, slSK, slLK, slAK, isPlain, Value.cells, ne_eq, not_false_eq_true, not_true_eq_false, Nat.reduceEqDiff, Nat.reduceAdd, Nat.reduceLT, Nat.reduceLeDiff, reduceCtorEq, Bool.not_true, Bool.not_false, Option.map_some, Option.map_none, Option.getD_some, Option.getD_none, List.map_cons, List.map_nil, List.getElem?_cons_zero, List.getElem?_cons_succ, List.getElem?_nil, List.getElem?_toArray, List.size_toArray, List.length_cons, List.length_nil, List.zipIdx_cons, List.zipIdx_nil, List.foldl_cons, List.foldl_nil, List.setIfInBounds_toArray, List.set_cons_zero, List.set_cons_succ, List.append_eq, List.nil_append, List.cons_append, List.append_nil, List.toList_toArray, true_and, and_true, true_or, or_true, or_false, false_or, and_self, if_true, if_false, ite_true, ite_false, Bool.false_eq_true, Nat.zero_add, Nat.add_zero, decide_true, decide_false, Bool.and_true, Bool.and_false, Bool.true_and, Bool.false_and, Option.isNone_some, Option.isNone_none, Int.reduceLT, Int.reduceLE, Int.reduceToNat, Int.toNat_natCast, Int.reduceAdd, Int.reduceSub, Int.reduceMul, Int.reduceNeg, Int.reduceEq, Int.reduceNe, Int.reduceBEq, Int.reduceBNe, Nat.mul_one, List.extract_toArray, List.extract_eq_take_drop, List.drop_zero, List.drop_succ_cons, List.take_zero, List.take_succ_cons, Nat.sub_zero, Nat.add_sub_cancel, Nat.add_sub_cancel_left, vcS_nil, vcS_cons, vcS_gate, gateS_true, gateS_false, stepB_true, stepB_false, pureI, Nat.zero_mul, Nat.one_mul, Nat.reduceMul, Nat.reduceSub, List.all_toArray', List.all_cons, List.all_nil, size_set, size_alloc, size_drew, get_alloc_new, get_set_same, get_drew, Nat.lt_add_one, vcD_nil, vcD_cons, vcD_gate, gateD_true, gateD_false, stepD_pure, stepD_load, stepD_step, kindI, loadI, sopK_add, sopK_eql, sopK_neq, lenSK_mk, vcE_nil, vcE_cons, vcE_gate, gateE_true, gateE_false, stepE_pure, stepE_load, stepE_step, g10, g11, r3, r4', r5, xr, xd, xc]
  refine lines_c (dumpL d) u1 _ ?_
  refine ⟨e1, ?_⟩
  try simp only [gate_true, upd_same, upd_other, ev_tmp, ev_const, insVc, loadV_some, loadNK, loadNO_cells, iopK, iopV, callvK, ne_eq, not_false_eq_true, Nat.reduceEqDiff, Nat.reduceAdd, Nat.reduceLeDiff, reduceCtorEq, List.map_cons, List.map_nil, List.size_toArray, List.length_cons, List.length_nil, List.nil_append, List.append_nil, true_and, or_false, if_true, if_false, Bool.false_eq_true, Nat.zero_add, List.extract_toArray, List.extract_eq_take_drop, List.drop_zero, List.take_zero, List.take_succ_cons, Nat.sub_zero, pureI, kindI, loadI, gateE_true, stepE_pure, stepE_load, stepE_step, g11, r5, xc, hdl, hw1, beq_self_eq_true]
  refine pages_c c z1 z2 z3 z4 z5 z6 sc u1 _ (ht.mod m1) (hc.keep m1) ?_
  intro u2 h2
  have e2 := e1.trans h2
  have m2 := hmu.trans e2
  refine ⟨e2, ?_⟩
  try simp only [vc_skip, vc_seq, vc_cond, vc_block, vc_exit, vc_ret, vc_ops, vcOps_nil, vcOps_cons, vcOps_gate, gateK_true, gateK_false, gate_true, gate_false, gate_undef, goL_apply, thenQ_normal, thenQ_ret, thenQ_exit, blockQ_normal, blockQ_ret, blockQ_same, blockQ_exit, condP_true, condP_false, upd_same, upd_other, updO_some, updO_none, ev_tmp, ev_const, ev_global, ev_func, endQ_ret, endQ_normal, endK, resK, resN, res1, resO_cells, resNO_cells, packed, initE_at, insVc, pickK, load1K, loadO_cells, loadV_some, loadV_none, loadNK, loadNO_cells, storeK, storeO_cells, storeNK, storeNO_cells, setMany, nilK, nilM, iopK, iopV, bopK, nilOf, pnilK, notK, convK, sameK, faddrK, fld1K, fldNK, iaddrK, iaddrAK, sidxK, extK, lenSK, lenLK, callvK, invK, buildK, fillL, buildSK, boundOf, slSK, slLK, slAK, isPlain, Value.cells, ne_eq, not_false_eq_true, not_true_eq_false, Nat.reduceEqDiff, Nat.reduceAdd, Nat.reduceLT, Nat.reduceLeDiff, reduceCtorEq, Bool.not_true, Bool.not_false, Option.map_some, Option.map_none, Option.getD_some, Option.getD_none, List.map_cons, List.map_nil, List.getElem?_cons_zero, List.getElem?_cons_succ, List.getElem?_nil, List.getElem?_toArray, List.size_toArray, List.length_cons, List.length_nil, List.zipIdx_cons, List.zipIdx_nil, List.foldl_cons, List.foldl_nil, List.setIfInBounds_toArray, List.set_cons_zero, List.set_cons_succ, List.append_eq, List.nil_append, List.cons_append, List.append_nil, List.toList_toArray, true_and, and_true, true_or, or_true, or_false, false_or, and_self, if_true, if_false, ite_true, ite_false, Bool.false_eq_true, Nat.zero_add, Nat.add_zero, decide_true, decide_false, Bool.and_true, Bool.and_false, Bool.true_and, Bool.false_and, Option.isNone_some, Option.isNone_none, Int.reduceLT, Int.reduceLE, Int.reduceToNat, Int.toNat_natCast, Int.reduceAdd, Int.reduceSub, Int.reduceMul, Int.reduceNeg, Int.reduceEq, Int.reduceNe, Int.reduceBEq, Int.reduceBNe, Nat.mul_one, List.extract_toArray, List.extract_eq_take_drop, List.drop_zero, List.drop_succ_cons, List.take_zero, List.take_succ_cons, Nat.sub_zero, Nat.add_sub_cancel, Nat.add_sub_cancel_left, vcS_nil, vcS_cons, vcS_gate, gateS_true, gateS_false, stepB_true, stepB_false, pureI, Nat.zero_mul, Nat.one_mul, Nat.reduceMul, Nat.reduceSub, List.all_toArray', List.all_cons, List.all_nil, size_set, size_alloc, size_drew, get_alloc_new, get_set_same, get_drew, Nat.lt_add_one, vcD_nil, vcD_cons, vcD_gate, gateD_true, gateD_false, stepD_pure, stepD_load, stepD_step, kindI, loadI, sopK_add, sopK_eql, sopK_neq, lenSK_mk, vcE_nil, vcE_cons, vcE_gate, gateE_true, gateE_false, stepE_pure, stepE_load, stepE_step, g10, g11, r3, r4', r5, xr, xd, xc]
  refine lines_c (pagesL c) u2 _ ?_
  refine ⟨e2, ?_⟩
  by_cases he : r.err = 0
  · have q1 : (r.err != 0) = false := by rw [he]; rfl
    have hrl := replyL_lines r he
    simp only [gate_false, upd_same, upd_other, ev_tmp, ev_const, insVc, pickK, load1K, loadO_cells, loadV_some, loadNK, loadNO_cells, iopK, iopV, faddrK, lenLK, callvK, ne_eq, not_false_eq_true, Nat.reduceEqDiff, Nat.reduceAdd, Nat.reduceLeDiff, reduceCtorEq, Bool.not_false, List.map_cons, List.map_nil, List.getElem?_cons_zero, List.getElem?_cons_succ, List.getElem?_toArray, List.size_toArray, List.length_cons, List.length_nil, List.nil_append, List.append_nil, true_and, or_false, if_true, if_false, Bool.false_eq_true, Nat.zero_add, Nat.add_zero, List.extract_toArray, List.extract_eq_take_drop, List.drop_zero, List.take_zero, List.take_succ_cons, Nat.sub_zero, pureI, kindI, loadI, gateE_true, stepE_pure, stepE_load, stepE_step, g11, r3, xr, hpl, q1, beq_self_eq_true]
    refine ryreply_c r v1 v2 v3 v4 sr u2 _ (ht.mod m2) (hr.keep m2) ?_
    intro u3 h3
    have e3 := e2.trans h3
    have m3 := hmu.trans e3
    refine ⟨e3, ?_⟩
    try simp only [vc_skip, vc_seq, vc_cond, vc_block, vc_exit, vc_ret, vc_ops, vcOps_nil, vcOps_cons, vcOps_gate, gateK_true, gateK_false, gate_true, gate_false, gate_undef, goL_apply, thenQ_normal, thenQ_ret, thenQ_exit, blockQ_normal, blockQ_ret, blockQ_same, blockQ_exit, condP_true, condP_false, upd_same, upd_other, updO_some, updO_none, ev_tmp, ev_const, ev_global, ev_func, endQ_ret, endQ_normal, endK, resK, resN, res1, resO_cells, resNO_cells, packed, initE_at, insVc, pickK, load1K, loadO_cells, loadV_some, loadV_none, loadNK, loadNO_cells, storeK, storeO_cells, storeNK, storeNO_cells, setMany, nilK, nilM, iopK, iopV, bopK, nilOf, pnilK, notK, convK, sameK, faddrK, fld1K, fldNK, iaddrK, iaddrAK, sidxK, extK, lenSK, lenLK, callvK, invK, buildK, fillL, buildSK, boundOf, slSK, slLK, slAK, isPlain, Value.cells, ne_eq, not_false_eq_true, not_true_eq_false, Nat.reduceEqDiff, Nat.reduceAdd, Nat.reduceLT, Nat.reduceLeDiff, reduceCtorEq, Bool.not_true, Bool.not_false, Option.map_some, Option.map_none, Option.getD_some, Option.getD_none, List.map_cons, List.map_nil, List.getElem?_cons_zero, List.getElem?_cons_succ, List.getElem?_nil, List.getElem?_toArray, List.size_toArray, List.length_cons, List.length_nil, List.zipIdx_cons, List.zipIdx_nil, List.foldl_cons, List.foldl_nil, List.setIfInBounds_toArray, List.set_cons_zero, List.set_cons_succ, List.append_eq, List.nil_append, List.cons_append, List.append_nil, List.toList_toArray, true_and, and_true, true_or, or_true, or_false, false_or, and_self, if_true, if_false, ite_true, ite_false, Bool.false_eq_true, Nat.zero_add, Nat.add_zero, decide_true, decide_false, Bool.and_true, Bool.and_false, Bool.true_and, Bool.false_and, Option.isNone_some, Option.isNone_none, Int.reduceLT, Int.reduceLE, Int.reduceToNat, Int.toNat_natCast, Int.reduceAdd, Int.reduceSub, Int.reduceMul, Int.reduceNeg, Int.reduceEq, Int.reduceNe, Int.reduceBEq, Int.reduceBNe, Nat.mul_one, List.extract_toArray, List.extract_eq_take_drop, List.drop_zero, List.drop_succ_cons, List.take_zero, List.take_succ_cons, Nat.sub_zero, Nat.add_sub_cancel, Nat.add_sub_cancel_left, vcS_nil, vcS_cons, vcS_gate, gateS_true, gateS_false, stepB_true, stepB_false, pureI, Nat.zero_mul, Nat.one_mul, Nat.reduceMul, Nat.reduceSub, List.all_toArray', List.all_cons, List.all_nil, size_set, size_alloc, size_drew, get_alloc_new, get_set_same, get_drew, Nat.lt_add_one, vcD_nil, vcD_cons, vcD_gate, gateD_true, gateD_false, stepD_pure, stepD_load, stepD_step, kindI, loadI, sopK_add, sopK_eql, sopK_neq, lenSK_mk, vcE_nil, vcE_cons, vcE_gate, gateE_true, gateE_false, stepE_pure, stepE_load, stepE_step, g10, g11, r3, r4', r5, xr, xd, xc]
    refine lines_c (replyL r) u3 _ ?_
    refine ⟨e3, ?_⟩
    try simp only [true_and, hrl]
    simp only [hve, beq_self_eq_true]
    exact h u3 m3
  · have q1 : (r.err != 0) = true := by simp [he]
    simp only [gate_false, upd_same, upd_other, ev_tmp, ev_const, insVc, pickK, load1K, loadO_cells, loadV_some, iopK, iopV, faddrK, ne_eq, not_false_eq_true, Nat.reduceEqDiff, reduceCtorEq, Bool.not_true, List.getElem?_cons_zero, List.getElem?_toArray, true_and, or_false, if_true, if_false, Bool.false_eq_true, Nat.add_zero, pureI, kindI, loadI, gateE_true, gateE_false, stepE_pure, stepE_load, r3, xr, hpl, q1, beq_self_eq_true]
    exact h u2 m2

theorem rp4_c (ht : Tab w) (hr : IsRy w v1 v2 v3 v4 r) (hd : IsDu w y1 y2 y3 d) (hc : IsRt w z1 z2 z3 z4 z5 z6 c) (sr : r.small) (sd : d.small) (sc : c.small)
    (h : ∀ w', Mod (fun _ => False) w w' → K (.bool true) w') (ρ : Env) (u : World) (S : RLst r d c v1 v2 v3 v4 y1 y2 y3 z1 z2 z3 z4 z5 z6 w u ρ) : vc Proofs.Tryz.prog none 102 cRP4 (endQ Proofs.Tryz.prog r4 K) ρ [] u := by
  have k1 := sd.l1
  have k2 := sd.l2
  have k3 := sd.l3
  obtain ⟨⟨a1, p1, e1⟩, _⟩ := id hd.qs
  obtain ⟨⟨a2, p2, e2⟩, _⟩ := id hd.bs
  obtain ⟨⟨a3, p3, e3⟩, _⟩ := id hd.ms
  have n1 : IntKind.i64.wrap (((d.qs.length : Nat) : Int) + ((d.bs.length : Nat) : Int)) = ((d.qs.length + d.bs.length : Nat) : Int) := by rw [wrap_i64 _ (by omega)]; omega
  have n2 : IntKind.i64.wrap (((d.qs.length + d.bs.length : Nat) : Int) + ((d.ms.length : Nat) : Int)) = ((d.qs.length + d.bs.length + d.ms.length : Nat) : Int) := by rw [wrap_i64 _ (by omega)]; omega
  have S0 := S
  obtain ⟨hmu, xr, xd, xc, r3, r4', r5⟩ := S
  rw [e1, e2, e3] at xd
  rw [cRP4_s]
  simp only [subC, c4, vc_seq, vc_ops, vcOps_nil, vcOps_cons, goL_apply, thenQ_normal, upd_same, upd_other, updO_some, ev_tmp, ev_func, insVc, load1K, loadO_cells, loadV_some, iopK, iopV, faddrK, lenLK, ne_eq, not_false_eq_true, Nat.reduceEqDiff, reduceCtorEq, List.getElem?_cons_zero, List.getElem?_cons_succ, List.getElem?_toArray, true_and, or_false, Nat.zero_add, r4', xd, n1, n2]
  refine rp6_c ht hr hd hc sr sd sc h _ u ⟨hmu, xr, S0.xd, xc, ?_, ?_, ?_⟩ ?_ ?_ <;> simp only [upd_same, upd_other, ne_eq, not_false_eq_true, Nat.reduceEqDiff, r3, r4', r5]

/-- the loop over one text. -/
theorem rp3_c (ht : Tab w) (hr : IsRy w v1 v2 v3 v4 r) (hd : IsDu w y1 y2 y3 d) (hc : IsRt w z1 z2 z3 z4 z5 z6 c) (sr : r.small) (sd : d.small) (sc : c.small)
    (h : ∀ w', Mod (fun _ => False) w w' → K (.bool true) w') (ρ : Env) (u : World) (S : RLst r d c v1 v2 v3 v4 y1 y2 y3 z1 z2 z3 z4 z5 z6 w u ρ) : vc Proofs.Tryz.prog none 102 cRP3 (endQ Proofs.Tryz.prog r4 K) ρ [] u := by
  obtain ⟨hmu, xr, xd, xc, r3, r4', r5⟩ := S
  rw [cRP3_s]
  simp only [subC, c4, vc_seq]
  refine draw_e (by kernel_rfl) (by kernel_rfl) (by kernel_rfl) (by kernel_rfl) ?_
  have e0 : Mod (fun _ => False) u u.drew := (Mod.refl _ _).drew
  have m0 := hmu.trans e0
  try simp only [vc_block, thenQ_normal, upd_same, upd_other, updO_some, ev_tmp, ev_const, insVc, loadNK, loadNO_cells, lenLK, fillL, buildSK, Value.cells, ne_eq, not_false_eq_true, Nat.reduceEqDiff, Nat.reduceAdd, Nat.reduceLeDiff, List.map_cons, List.map_nil, List.size_toArray, List.length_cons, List.length_nil, true_and, and_true, if_true, if_false, Bool.false_eq_true, Nat.zero_add, List.extract_toArray, List.extract_eq_take_drop, List.drop_zero, List.take_zero, List.take_succ_cons, Nat.sub_zero, pureI, kindI, loadI, vcE_nil, vcE_cons, stepE_pure, stepE_load, stepE_step, r3, r4', r5, xr, xd, xc]
  refine ryreply_c r v1 v2 v3 v4 sr u.drew _ (ht.mod m0) (hr.keep m0) ?_
  intro u1 h1
  have e1 := e0.trans h1
  have m1 := hmu.trans e1
  refine ⟨e1, ?_⟩
  try simp only [Nat.reduceAdd, Nat.reduceLeDiff, List.size_toArray, List.length_cons, List.length_nil, List.zipIdx_cons, List.zipIdx_nil, List.foldl_cons, List.foldl_nil, List.setIfInBounds_toArray, List.set_cons_zero, and_true, if_true, Nat.zero_add]
  refine dump_c d y1 y2 y3 sd u1 _ (ht.mod m1) (hd.keep m1) ?_
  intro u2 h2
  have e2 := e1.trans h2
  have m2 := hmu.trans e2
  refine ⟨e2, ?_⟩
  try simp only [Nat.reduceAdd, Nat.reduceLeDiff, List.size_toArray, List.length_cons, List.length_nil, List.zipIdx_cons, List.zipIdx_nil, List.foldl_cons, List.foldl_nil, List.setIfInBounds_toArray, List.set_cons_zero, List.set_cons_succ, and_true, if_true, Nat.zero_add, Nat.add_zero]
  refine pages_c c z1 z2 z3 z4 z5 z6 sc u2 _ (ht.mod m2) (hc.keep m2) ?_
  intro u3 h3
  have e3 := e2.trans h3
  have m3 := hmu.trans e3
  refine ⟨e3, ?_⟩
  simp only [List.size_toArray, List.length_cons, List.length_nil, List.zipIdx_cons, List.zipIdx_nil, List.foldl_cons, List.foldl_nil, List.setIfInBounds_toArray, List.set_cons_zero, List.set_cons_succ, if_true, Nat.zero_add, Nat.add_zero]
  obtain ⟨cur, hcur⟩ : ∃ cur : Array Value, cur = #[.string ⟨(replyL r).toArray⟩, .string ⟨(dumpL d).toArray⟩, .string ⟨(pagesL c).toArray⟩] := ⟨_, rfl⟩
  rw [← hcur]
  obtain ⟨w4, hw4⟩ : ∃ w4, w4 = u3.alloc (.cells cur 9) := ⟨_, rfl⟩
  have h4 : Mod (fun _ => False) u3 w4 := by rw [hw4]; exact (Mod.refl _ _).alloc _
  have hb : w4.heap[u3.heap.size]? = some (.cells cur 9 (0, 0)) := by rw [hw4]; exact get_alloc_new _ _
  have hsz : cur.size = 3 := by rw [hcur]; rfl
  rw [← hw4]
  clear hw4
  obtain ⟨B, hB⟩ : ∃ B, B = u3.heap.size := ⟨_, rfl⟩
  rw [← hB] at hb ⊢
  have e4 := e3.trans h4
  refine ⟨e4, ?_⟩
  have S4 : Mod (fun _ => False) w w4 ∧ w4.heap[w.heap.size]? = some (.cells #[.int .i64 r.err, .int .u64 r.n, v1, v2, v3, v4] 27 (0, 0)) ∧ w4.heap[w.heap.size + 1]? = some (.cells #[.int .u64 d.clock, .int .u64 d.last, y1, y2, y3] 31 (0, 0)) ∧ w4.heap[w.heap.size + 2]? = some (.cells #[z1, z2, z3, z4, z5, z6, .int .i64 c.pairs, .int .u64 c.bytes, .int .i64 c.depth] 34 (0, 0)) :=
    ⟨hmu.trans e4, e4.keep xr id, e4.keep xd id, e4.keep xc id⟩
  have n1 := replyL_len hr sr
  have n2 := dumpL_len hd sd
  have n3 := pagesL_len hc sc
  have hL : ∀ i, i < 3 → ∃ l : List UInt8, cur[i]? = some (.string ⟨l.toArray⟩) ∧ l.length ≤ 7000000 ∧ ∀ x ∈ l, x.toNat = 10 ∨ (32 ≤ x.toNat ∧ x.toNat ≤ 126) := by
    intro i hi
    rw [hcur]
    match i, hi with
    | 0, _ => exact ⟨_, rfl, Nat.le_trans n1 (by decide), (replyL_pl r).ten⟩
    | 1, _ => exact ⟨_, rfl, n2, (dumpL_pl d).ten⟩
    | 2, _ => exact ⟨_, rfl, Nat.le_trans n3 (by decide), (pagesL_pl c).ten⟩
  clear hcur
  have hfin : ∀ ρ : Env, ρ 3 = ptr w.heap.size → ρ 4 = ptr (w.heap.size + 1) → ρ 5 = ptr (w.heap.size + 2) → vc Proofs.Tryz.prog none 102 cRP4 (endQ Proofs.Tryz.prog r4 K) ρ [] w4 :=
    fun ρ g3 g4 g5 => rp4_c ht hr hd hc sr sd sc h ρ w4 ⟨S4.1, S4.2.1, S4.2.2.1, S4.2.2.2, g3, g4, g5⟩
  clear S4 xr xd xc hmu e0 m0 e1 m1 e2 m2 e3 m3 e4 h1 h2 h3 h4
  refine vc_loop (fun mm ρ ds u => ∃ i, i ≤ 3 ∧ mm = 3 - i ∧ ds = [] ∧ ρ 3 = ptr w.heap.size ∧ ρ 4 = ptr (w.heap.size + 1) ∧ ρ 5 = ptr (w.heap.size + 2) ∧ ρ 33 = .slice (some ⟨B, 0, none⟩) 3 3 ∧ ρ 34 = .int .i64 ((3 : Nat) : Int) ∧ ρ 35 = .int .i64 i ∧ u = w4) 3 ?_ ?_
  · refine ⟨0, by omega, rfl, rfl, ?_, ?_, ?_, ?_, ?_, ?_, rfl⟩ <;> simp only [upd_same, upd_other, ne_eq, not_false_eq_true, Nat.reduceEqDiff, r3, r4', r5] <;> rfl
  · rintro mm ρ ds u ⟨i, hi, rfl, rfl, g3, g4, g5, g33, g34, g35, rfl⟩
    by_cases hc' : i < 3
    · have d1 : (i : Int) < ((3 : Nat) : Int) := by omega
      have hi0 : (0 : Int) ≤ (i : Int) ∧ (i : Int) < ((3 : Nat) : Int) := by omega
      obtain ⟨l, hl, hlm, hp⟩ := hL i hc'
      have hwi : IntKind.i64.wrap ((i : Int) + 1) = ((i + 1 : Nat) : Int) := by rw [wrap_i64 _ (by omega)]; omega
      simp only [vc_skip, vc_seq, vc_cond, vc_block, vc_ops, vcOps_nil, vcOps_cons, goL_apply, thenQ_normal, condP_true, upd_same, upd_other, updO_some, ev_tmp, ev_const, insVc, load1K, loadO_cells, loadV_some, iopK, iopV, iaddrK, lenSK, ne_eq, not_false_eq_true, Nat.reduceEqDiff, reduceCtorEq, true_and, or_false, and_self, Nat.zero_add, decide_true, Int.toNat_natCast, Nat.mul_one, g33, g34, g35, d1, hi0, hb, hl, Nat.zero_add]
      have hsl : (⟨l.toArray⟩ : ByteArray).size = l.length := rfl
      refine vc_loop (fun mm ρ ds u' => ∃ j, j ≤ l.length ∧ mm = l.length - j ∧ ds = [] ∧ ρ 3 = ptr w.heap.size ∧ ρ 4 = ptr (w.heap.size + 1) ∧ ρ 5 = ptr (w.heap.size + 2) ∧ ρ 33 = .slice (some ⟨B, 0, none⟩) 3 3 ∧ ρ 34 = .int .i64 ((3 : Nat) : Int) ∧ ρ 35 = .int .i64 i ∧
        ρ 8 = .string ⟨l.toArray⟩ ∧ ρ 40 = .int .i64 ((l.length : Nat) : Int) ∧ ρ 41 = .int .i64 j ∧ u' = u) l.length ?_ ?_
      · refine ⟨0, Nat.zero_le _, rfl, rfl, ?_, ?_, ?_, ?_, ?_, ?_, ?_, ?_, ?_, rfl⟩ <;> simp only [upd_same, upd_other, ne_eq, not_false_eq_true, Nat.reduceEqDiff, g3, g4, g5, g33, g34, g35] <;> rfl
      · rintro mm ρ ds u' ⟨j, hj, rfl, rfl, g3, g4, g5, g33, g34, g35, g8, g40, g41, rfl⟩
        by_cases hj' : j < l.length
        · have d2 : (j : Int) < ((l.length : Nat) : Int) := by omega
          have hj0 : (0 : Int) ≤ (j : Int) := by omega
          obtain ⟨x, hx⟩ : ∃ x, l[j]? = some x := ⟨l[j], List.getElem?_eq_getElem hj'⟩
          have hwj : IntKind.i64.wrap ((j : Int) + 1) = ((j + 1 : Nat) : Int) := by rw [wrap_i64 _ (by omega)]; omega
          have fin : ∃ m', m' < l.length - j ∧ ∃ j', j' ≤ l.length ∧ m' = l.length - j' ∧ Value.int .i64 ((j + 1 : Nat) : Int) = .int .i64 j' := ⟨l.length - (j + 1), by omega, j + 1, by omega, rfl, rfl⟩
          rcases hp x (List.mem_of_getElem? hx) with hq | ⟨hq1, hq2⟩
          · have q1 : (((x.toNat : Nat) : Int) != 10) = false := by rw [hq]; rfl
            simp only [vc_skip, vc_seq, vc_cond, vc_block, vc_ops, vcOps_nil, vcOps_cons, vcOps_gate, gateK_false, gate_true, gate_undef, goL_apply, thenQ_normal, blockQ_normal, condP_true, condP_false, upd_same, upd_other, updO_some, ev_tmp, ev_const, insVc, pickK, loadV_some, iopK, iopV, sidxK, ne_eq, not_false_eq_true, Nat.reduceEqDiff, reduceCtorEq, Option.map_some, List.getElem?_toArray, true_and, and_true, or_false, if_false, Bool.false_eq_true, decide_true, Int.toNat_natCast, g3, g4, g5, g33, g34, g35, g8, g40, g41, d2, hj0, hx, hwj, q1]
            exact fin
          · by_cases hq : x.toNat = 10
            · omega
            · have q1 : (((x.toNat : Nat) : Int) != 10) = true := by simp only [bne_iff_ne, ne_eq]; omega
              have q2 : ¬ ((x.toNat : Nat) : Int) < 32 := by omega
              have q3 : ¬ ((x.toNat : Nat) : Int) > 126 := by omega
              simp only [vc_skip, vc_seq, vc_cond, vc_block, vc_ops, vcOps_nil, vcOps_cons, vcOps_gate, gateK_true, gate_true, gate_false, goL_apply, thenQ_normal, blockQ_normal, condP_true, condP_false, upd_same, upd_other, updO_some, ev_tmp, ev_const, insVc, pickK, loadV_some, iopK, iopV, sidxK, ne_eq, not_false_eq_true, Nat.reduceEqDiff, reduceCtorEq, Bool.not_false, Option.map_some, List.getElem?_toArray, true_and, and_true, or_false, if_true, if_false, Bool.false_eq_true, decide_true, decide_false, Int.toNat_natCast, g3, g4, g5, g33, g34, g35, g8, g40, g41, d2, hj0, hx, hwj, q1, q2, q3]
              exact fin
        · have d2 : ¬ (j : Int) < ((l.length : Nat) : Int) := by omega
          simp only [vc_seq, vc_cond, vc_exit, vc_ops, vcOps_nil, vcOps_cons, goL_apply, thenQ_normal, thenQ_exit, blockQ_normal, blockQ_same, condP_false, upd_same, upd_other, updO_some, ev_tmp, ev_const, insVc, loadV_some, iopK, iopV, ne_eq, not_false_eq_true, Nat.reduceEqDiff, reduceCtorEq, true_and, and_true, or_false, decide_false, g3, g4, g5, g33, g34, g35, g40, g41, d2, hwi]
          exact ⟨3 - (i + 1), by omega, i + 1, by omega, rfl, rfl⟩
    · have d1 : ¬ (i : Int) < ((3 : Nat) : Int) := by omega
      simp only [vc_seq, vc_cond, vc_exit, vc_ops, vcOps_nil, vcOps_cons, goL_apply, thenQ_normal, thenQ_exit, blockQ_same, condP_false, upd_same, updO_some, ev_tmp, insVc, loadV_some, iopK, iopV, reduceCtorEq, true_and, or_false, decide_false, g34, g35, d1]
      exact hfin _ (by simp only [upd_other, ne_eq, not_false_eq_true, Nat.reduceEqDiff, g3]) (by simp only [upd_other, ne_eq, not_false_eq_true, Nat.reduceEqDiff, g4]) (by simp only [upd_other, ne_eq, not_false_eq_true, Nat.reduceEqDiff, g5])
end
end Go.Oct

namespace Go.Oct
open Go Go.Vc Go.VrA Go.VrB Go.VrD
set_option maxRecDepth 100000

/-! ### ReportPlain, whole -/

section
variable {r : Ry} {d : Du} {c : Rt} {v1 v2 v3 v4 y1 y2 y3 z1 z2 z3 z4 z5 z6 : Value} {w : World} {K : Value → World → Prop}

theorem reportPlain_c (m : Int) (hg : Gl m w) (ht : Tab w) (hr : IsRy w v1 v2 v3 v4 r) (hd : IsDu w y1 y2 y3 d) (hc : IsRt w z1 z2 z3 z4 z5 z6 c) (hsum : d.qs.length + d.bs.length + d.ms.length < 2 ^ 62)
    (h : ∀ w', Mod (fun _ => False) w w' → K (.bool true) w') :
    Ok Proofs.Tryz.prog 4 #[.agg #[.int .i64 r.err, .int .u64 r.n, v1, v2, v3, v4], .agg #[.int .u64 d.clock, .int .u64 d.last, y1, y2, y3], .agg #[z1, z2, z3, z4, z5, z6, .int .i64 c.pairs, .int .u64 c.bytes, .int .i64 c.depth]] w K := by
  refine F4.enter (args := [.agg #[.int .i64 r.err, .int .u64 r.n, v1, v2, v3, v4], .agg #[.int .u64 d.clock, .int .u64 d.last, y1, y2, y3], .agg #[z1, z2, z3, z4, z5, z6, .int .i64 c.pairs, .int .u64 c.bytes, .int .i64 c.depth]]) (by simp) ?_
  rw [cRP_s]
  simp only [subC, c4, vc_seq, vc_ops, vcOps_nil, vcOps_cons, goL_apply, thenQ_normal, upd_other, updO_some, ev_tmp, ev_const, initE_at, insVc, Value.cells, ne_eq, not_false_eq_true, Nat.reduceEqDiff, Nat.reduceAdd, Option.getD_some, List.map_nil, List.getElem?_cons_zero, List.getElem?_cons_succ, size_alloc, size_alloc, Nat.add_assoc, Nat.reduceAdd, Nat.reduceEqDiff]
  refine callK_gen ?_
  intro w1 hw1
  have hm1 : Mod (fun _ => False) w w1 := by rw [hw1]; exact (((Mod.refl _ _).alloc _).alloc _).alloc _
  have xr1 : w1.heap[w.heap.size]? = some (.cells #[.int .i64 r.err, .int .u64 r.n, v1, v2, v3, v4] 27 (0, 0)) := by rw [hw1]; simp only [Nat.reduceAdd, reduceCtorEq, if_true, if_false, size_alloc, get_alloc, size_alloc, Nat.add_assoc, Nat.reduceAdd, Nat.left_eq_add, Nat.one_ne_zero]
  have xd1 : w1.heap[w.heap.size + 1]? = some (.cells #[.int .u64 d.clock, .int .u64 d.last, y1, y2, y3] 31 (0, 0)) := by rw [hw1]; simp only [Nat.reduceEqDiff, Nat.reduceAdd, if_true, if_false, size_alloc, get_alloc, size_alloc, Nat.add_assoc, Nat.reduceAdd, Nat.add_left_cancel_iff, Nat.add_eq_left, Nat.reduceEqDiff, Nat.one_ne_zero]
  have xc1 : w1.heap[w.heap.size + 2]? = some (.cells #[z1, z2, z3, z4, z5, z6, .int .i64 c.pairs, .int .u64 c.bytes, .int .i64 c.depth] 34 (0, 0)) := by rw [hw1]; simp only [Nat.reduceEqDiff, Nat.reduceAdd, reduceCtorEq, if_true, if_false, size_alloc, get_alloc, size_alloc, Nat.add_assoc, Nat.reduceAdd, Nat.add_left_cancel_iff, Nat.add_eq_left, Nat.reduceEqDiff]
  clear hw1
  refine awake29_c m w1 _ (hg.mod hm1 id) ?_
  intro w2 hm2
  have hm02 := hm1.trans hm2
  have xr2 := hm2.keep xr1 id
  have xd2 := hm2.keep xd1 id
  have xc2 := hm2.keep xc1 id
  simp only [vc_skip, vc_seq, vc_cond, vc_ops, vcOps_nil, vcOps_cons, goL_apply, thenQ_normal, condP_false, upd_same, upd_other, updO_some, ev_tmp, insVc, loadNK, loadNO_cells, notK, ne_eq, not_false_eq_true, Nat.reduceEqDiff, Nat.reduceAdd, Nat.reduceLeDiff, Bool.not_true, List.map_cons, List.map_nil, List.size_toArray, List.length_cons, List.length_nil, true_and, Nat.zero_add, List.extract_toArray, List.extract_eq_take_drop, List.drop_zero, List.take_zero, List.take_succ_cons, Nat.sub_zero, xr2]
  refine light_c r v1 v2 v3 v4 w2 _ (hr.keep hm02) ?_
  intro w3 b1 hm3 hb1
  have hm03 := hm02.trans hm3
  have xr3 := hm3.keep xr2 id
  have xd3 := hm3.keep xd2 id
  have xc3 := hm3.keep xc2 id
  cases b1 with
  | false =>
    simp only [vc_seq, vc_cond, vc_ret, vc_ops, vcOps_nil, vcOps_cons, vcOps_gate, gateK_false, gate_false, goL_apply, thenQ_normal, thenQ_ret, condP_true, upd_same, upd_other, updO_some, ev_tmp, ev_const, endQ_ret, endK, resK, packed, insVc, pickK, notK, ne_eq, not_false_eq_true, Nat.reduceEqDiff, Bool.not_true, Bool.not_false, List.nil_append, if_true]
    exact h w3 hm03
  | true =>
    simp only [vcOps_cons, vcOps_gate, gateK_true, gate_false, goL_apply, upd_same, upd_other, updO_some, ev_tmp, insVc, loadNK, loadNO_cells, notK, ne_eq, not_false_eq_true, Nat.reduceEqDiff, Nat.reduceAdd, Nat.reduceLeDiff, Bool.not_true, Bool.not_false, List.map_cons, List.map_nil, List.size_toArray, List.length_cons, List.length_nil, true_and, Nat.zero_add, List.extract_toArray, List.extract_eq_take_drop, List.drop_zero, List.take_zero, List.take_succ_cons, Nat.sub_zero, xd3]
    refine light27_c d y1 y2 y3 w3 _ (hd.keep hm03) hsum ?_
    intro w4 b2 hm4 hb2
    have hm04 := hm03.trans hm4
    have xr4 := hm4.keep xr3 id
    have xd4 := hm4.keep xd3 id
    have xc4 := hm4.keep xc3 id
    cases b2 with
    | false =>
      simp only [vc_seq, vc_cond, vc_ret, vc_ops, vcOps_nil, vcOps_cons, vcOps_gate, gateK_true, gateK_false, gate_false, goL_apply, thenQ_normal, thenQ_ret, condP_true, upd_same, upd_other, updO_some, ev_tmp, ev_const, endQ_ret, endK, resK, packed, insVc, pickK, notK, ne_eq, not_false_eq_true, Nat.reduceEqDiff, Bool.not_true, Bool.not_false, List.nil_append, if_true, if_false, Bool.false_eq_true]
      exact h w4 hm04
    | true =>
      simp only [vcOps_cons, vcOps_gate, gateK_true, gate_false, goL_apply, upd_same, upd_other, updO_some, ev_tmp, ev_const, insVc, pickK, loadNK, loadNO_cells, notK, ne_eq, not_false_eq_true, Nat.reduceEqDiff, Nat.reduceAdd, Nat.reduceLeDiff, Bool.not_true, Bool.not_false, List.map_cons, List.map_nil, List.size_toArray, List.length_cons, List.length_nil, true_and, if_false, Bool.false_eq_true, Nat.zero_add, List.extract_toArray, List.extract_eq_take_drop, List.drop_zero, List.take_zero, List.take_succ_cons, Nat.sub_zero, xc4]
      refine few_c c z1 z2 z3 z4 z5 z6 w4 _ (hc.keep hm04) ?_
      intro w5 b3 hm5 hb3
      have hm05 := hm04.trans hm5
      cases b3 with
      | false =>
        simp only [vc_seq, vc_cond, vc_ret, vc_ops, vcOps_nil, vcOps_cons, vcOps_gate, gateK_true, gate_false, goL_apply, thenQ_normal, thenQ_ret, condP_true, upd_same, upd_other, updO_some, ev_tmp, ev_const, endQ_ret, endK, resK, packed, insVc, pickK, notK, ne_eq, not_false_eq_true, Nat.reduceEqDiff, Bool.not_false, List.nil_append, if_false, Bool.false_eq_true]
        exact h w5 hm05
      | true =>
        simp only [vc_skip, vc_cond, vcOps_nil, vcOps_cons, vcOps_gate, gateK_true, gate_false, goL_apply, thenQ_normal, condP_false, upd_same, upd_other, updO_some, ev_tmp, ev_const, insVc, pickK, notK, ne_eq, not_false_eq_true, Nat.reduceEqDiff, Bool.not_true, Bool.not_false, if_false, Bool.false_eq_true]
        exact rp3_c ht hr hd hc (hb1 rfl) (hb2 rfl) (hb3 rfl) h _ w5 ⟨hm05, hm5.keep xr4 id, hm5.keep xd4 id, hm5.keep xc4 id, by simp only [upd_same, upd_other, ne_eq, not_false_eq_true, Nat.reduceEqDiff], by simp only [upd_same, upd_other, ne_eq, not_false_eq_true, Nat.reduceEqDiff], by simp only [upd_same, upd_other, ne_eq, not_false_eq_true, Nat.reduceEqDiff]⟩
end
end Go.Oct
