import Derived.Test.YtbkddpckkgbbmaaGreatDoorVoJ
namespace Go.Oct
open Go Go.Vc Go.VrA
set_option maxRecDepth 100000

/-! ### topic.Name -/

def plainI (x : Int) : Bool := (decide (x ≥ 97) && decide (x ≤ 122)) || (decide (x ≥ 65) && decide (x ≤ 90)) || (decide (x ≥ 48) && decide (x ≤ 57)) || x == 45 || x == 95

theorem plain_c (x : Int) (w : World) (K : Value → World → Prop) (h : K (.bool (plainI x)) w) : Ok Proofs.Tryz.prog 134 #[.int .i32 x] w K := by
  refine F134.enter (args := [.int .i32 x]) (by simp) ?_
  unfold c134 r134
  by_cases a1 : x ≥ 97
  · have n2 : ¬ x ≤ 90 := by omega
    have n3 : ¬ x ≤ 57 := by omega
    have n4 : (x == 45) = false := by rw [beq_eq_false_iff_ne]; omega
    have m1 : x ≥ 65 := by omega
    have m2 : x ≥ 48 := by omega
    have n5 : (x == 95) = false := by rw [beq_eq_false_iff_ne]; omega
    by_cases a2 : x ≤ 122
    · simp only [plainI, a1, a2, decide_true, Bool.true_or, Bool.and_self] at h
      simp only [vc_seq, vc_ret, vc_ops, vcOps_nil, vcOps_cons, vcOps_gate, gateK_true, gateK_false, gate_true, gate_false, gate_undef, goL_apply, thenQ_normal, upd_same, upd_other, updO_some, ev_tmp, ev_const, endQ_ret, endK, resK, packed, initE_at, insVc, pickK, loadV_some, iopK, iopV, ne_eq, not_false_eq_true, Nat.reduceEqDiff, reduceCtorEq, Bool.not_true, Option.getD_some, List.getElem?_cons_zero, List.nil_append, true_and, or_false, if_true, decide_true, a1, a2]; exact h
    · simp only [plainI, a1, a2, n2, n3, n4, n5, m1, m2, decide_true, decide_false, Bool.and_false, Bool.or_self] at h
      simp only [vc_seq, vc_ret, vc_ops, vcOps_nil, vcOps_cons, vcOps_gate, gateK_true, gate_true, gate_false, goL_apply, thenQ_normal, upd_same, upd_other, updO_some, ev_tmp, ev_const, endQ_ret, endK, resK, packed, initE_at, insVc, pickK, loadV_some, iopK, iopV, ne_eq, not_false_eq_true, Nat.reduceEqDiff, reduceCtorEq, Bool.not_false, Option.getD_some, List.getElem?_cons_zero, List.nil_append, true_and, or_false, if_true, if_false, Bool.false_eq_true, decide_true, decide_false, a1, a2, n2, n3, n4, n5, m1, m2]; exact h
  · by_cases b1 : x ≥ 65
    · have m2 : x ≥ 48 := by omega
      have n3 : ¬ x ≤ 57 := by omega
      have n4 : (x == 45) = false := by rw [beq_eq_false_iff_ne]; omega
      by_cases b2 : x ≤ 90
      · simp only [plainI, a1, b1, b2, decide_true, decide_false, Bool.false_and, Bool.false_or, Bool.true_or, Bool.and_self] at h
        simp only [vc_seq, vc_ret, vc_ops, vcOps_nil, vcOps_cons, vcOps_gate, gateK_true, gateK_false, gate_true, gate_false, gate_undef, goL_apply, thenQ_normal, upd_same, upd_other, updO_some, ev_tmp, ev_const, endQ_ret, endK, resK, packed, initE_at, insVc, pickK, loadV_some, iopK, iopV, ne_eq, not_false_eq_true, Nat.reduceEqDiff, reduceCtorEq, Bool.not_true, Bool.not_false, Option.getD_some, List.getElem?_cons_zero, List.nil_append, true_and, or_false, if_true, if_false, Bool.false_eq_true, decide_true, decide_false, a1, b1, b2]; exact h
      · simp only [plainI, a1, b1, b2, n3, n4, m2, decide_true, decide_false, Bool.false_and, Bool.and_false, Bool.false_or, Bool.or_self] at h
        simp only [vc_seq, vc_ret, vc_ops, vcOps_nil, vcOps_cons, vcOps_gate, gateK_true, gateK_false, gate_true, gate_false, goL_apply, thenQ_normal, upd_same, upd_other, updO_some, ev_tmp, ev_const, endQ_ret, endK, resK, packed, initE_at, insVc, pickK, loadV_some, iopK, iopV, ne_eq, not_false_eq_true, Nat.reduceEqDiff, reduceCtorEq, Bool.not_false, Option.getD_some, List.getElem?_cons_zero, List.nil_append, true_and, or_false, if_true, if_false, Bool.false_eq_true, decide_true, decide_false, a1, b1, b2, n3, n4, m2]; exact h
    · have n5 : (x == 95) = false := by rw [beq_eq_false_iff_ne]; omega
      by_cases c1 : x ≥ 48
      · have n4 : (x == 45) = false := by rw [beq_eq_false_iff_ne]; omega
        by_cases c2 : x ≤ 57
        · simp only [plainI, a1, b1, c1, c2, decide_true, decide_false, Bool.false_and, Bool.false_or, Bool.true_or, Bool.and_self] at h
          simp only [vc_seq, vc_ret, vc_ops, vcOps_nil, vcOps_cons, vcOps_gate, gateK_true, gateK_false, gate_true, gate_false, goL_apply, thenQ_normal, upd_same, upd_other, updO_some, ev_tmp, ev_const, endQ_ret, endK, resK, packed, initE_at, insVc, pickK, loadV_some, iopK, iopV, ne_eq, not_false_eq_true, Nat.reduceEqDiff, reduceCtorEq, Bool.not_true, Bool.not_false, Option.getD_some, List.getElem?_cons_zero, List.nil_append, true_and, or_false, if_true, if_false, Bool.false_eq_true, decide_true, decide_false, a1, b1, c1, c2]; exact h
        · simp only [plainI, a1, b1, c1, c2, n4, n5, decide_true, decide_false, Bool.false_and, Bool.and_false, Bool.or_self] at h
          simp only [vc_seq, vc_ret, vc_ops, vcOps_nil, vcOps_cons, vcOps_gate, gateK_true, gateK_false, gate_true, gate_false, goL_apply, thenQ_normal, upd_same, upd_other, updO_some, ev_tmp, ev_const, endQ_ret, endK, resK, packed, initE_at, insVc, pickK, loadV_some, iopK, iopV, ne_eq, not_false_eq_true, Nat.reduceEqDiff, reduceCtorEq, Bool.not_false, Option.getD_some, List.getElem?_cons_zero, List.nil_append, true_and, or_false, if_true, if_false, Bool.false_eq_true, decide_true, decide_false, a1, b1, c1, c2, n4, n5]; exact h
      · simp only [plainI, a1, b1, c1, n5, decide_false, Bool.false_and, Bool.false_or, Bool.or_false] at h
        simp only [vc_seq, vc_ops, vcOps_nil, vcOps_cons, vcOps_gate, gateK_true, gateK_false, gate_true, gate_false, goL_apply, thenQ_normal, upd_same, upd_other, updO_some, ev_tmp, ev_const, initE_at, insVc, pickK, loadV_some, iopK, iopV, ne_eq, not_false_eq_true, Nat.reduceEqDiff, reduceCtorEq, Bool.not_false, Option.getD_some, List.getElem?_cons_zero, true_and, or_false, if_false, Bool.false_eq_true, decide_false, a1, b1, c1]
        by_cases d : (x == 45) = true
        · simp only [d] at h
          simp only [vc_ret, vcOps_nil, vcOps_cons, vcOps_gate, gateK_false, gate_false, goL_apply, thenQ_normal, upd_same, upd_other, updO_some, ev_tmp, ev_const, endQ_ret, endK, resK, packed, insVc, pickK, ne_eq, not_false_eq_true, Nat.reduceEqDiff, Bool.not_true, List.nil_append, if_true, d]; exact h
        · have d' : (x == 45) = false := by simpa using d
          simp only [d'] at h
          simp only [vc_ret, vcOps_nil, vcOps_cons, vcOps_gate, gateK_true, gate_false, goL_apply, thenQ_normal, upd_same, upd_other, updO_some, ev_tmp, ev_const, endQ_ret, endK, resK, packed, initE_at, insVc, pickK, loadV_some, iopK, iopV, ne_eq, not_false_eq_true, Nat.reduceEqDiff, reduceCtorEq, Bool.not_false, Option.getD_some, List.getElem?_cons_zero, List.nil_append, true_and, or_false, if_false, Bool.false_eq_true, d', n5]; exact h

theorem notPlain_c (x : Int) (w : World) (K : Value → World → Prop) (h : K (.bool !(plainI x)) w) : Ok Proofs.Tryz.prog 133 #[.int .i32 x] w K := by
  refine F133.enter (args := [.int .i32 x]) (by simp) ?_
  unfold c133 r133
  simp only [vc_seq, vc_ops, vcOps_nil, vcOps_cons, goL_apply, thenQ_normal, upd_same, upd_other, updO_some, ev_tmp, ev_const, initE_at, insVc, ne_eq, not_false_eq_true, reduceCtorEq, Option.getD_some, List.map_cons, List.map_nil, List.getElem?_cons_zero]
  refine plain_c x w _ ?_
  simp only [vc_ret, vcOps_nil, vcOps_cons, goL_apply, thenQ_normal, upd_same, updO_some, ev_tmp, endQ_ret, endK, resK, packed, insVc, notK, List.nil_append]
  exact h

def nameB (s : ByteArray) : Bool := !(s.toList == (⟨#[]⟩ : ByteArray).toList) && decide (s.size ≤ 32) && !decide (0 ≤ Lib.idxFunc (fun x => !(plainI x)) true s)

theorem containsFunc_c (s : ByteArray) (w : World) (K : Value → World → Prop) (h : ∀ w', Mod (fun _ => False) w w' → K (.bool (decide (0 ≤ Lib.idxFunc (fun x => !(plainI x)) true s))) w') :
    Ok Proofs.Tryz.prog 132 #[.string s, .func (.func 133) #[] #[]] w K := by
  refine ok_of_calls (by kernel_rfl) (Proofs.Tryz.strings_ContainsFunc 133 #[] (Go.Proofs.enters_of Proofs.Tryz.func133 (by kernel_rfl) rfl) (fun x => !(plainI x)) s w ?_) ?_
  · intro W x _
    have hk : Ok Proofs.Tryz.prog 133 #[.int .i32 (x : Int)] W (fun v w' => v = .bool (!(plainI x)) ∧ w' = W) := notPlain_c x W _ ⟨rfl, rfl⟩
    refine (callsIn_wide.1 hk.2).mono ?_
    rintro e w' ⟨v, rfl, rfl, rfl⟩
    exact ⟨rfl, 0, rfl⟩
  · rintro e w' ⟨rfl, hlo⟩
    exact ⟨_, rfl, h w' (Mod.of_below hlo)⟩

theorem name_c (s : ByteArray) (w : World) (K : Value → World → Prop) (h : ∀ w', Mod (fun _ => False) w w' → K (.bool (nameB s)) w') : Ok Proofs.Tryz.prog 59 #[.string s] w K := by
  refine F59.enter (args := [.string s]) (by simp) ?_
  unfold c59 r59
  simp only [vc_seq, vc_ops, vcOps_nil, vcOps_cons, vcOps_gate, gate_true, goL_apply, thenQ_normal, upd_same, upd_other, updO_some, ev_tmp, ev_const, initE_at, insVc, loadV_some, sopK, sopV, ne_eq, not_false_eq_true, reduceCtorEq, Option.getD_some, List.getElem?_cons_zero]
  refine gateK_split ?_ ?_
  · intro h1
    simp only [vcOps_cons, vcOps_gate, gateK_true, gate_true, goL_apply, upd_same, upd_other, updO_some, ev_tmp, ev_const, initE_at, insVc, pickK, loadV_some, iopK, iopV, lenSK, ne_eq, not_false_eq_true, Nat.reduceEqDiff, reduceCtorEq, Option.getD_some, List.getElem?_cons_zero, true_and, or_false, if_true, h1]
    by_cases h2 : (s.size : Int) ≤ 32
    · simp only [vcOps_gate, gateK_true, gate_true, goL_apply, upd_same, upd_other, updO_some, ev_tmp, ev_func, initE_at, insVc, ne_eq, not_false_eq_true, Nat.reduceEqDiff, reduceCtorEq, Option.getD_some, List.map_cons, List.map_nil, List.getElem?_cons_zero, decide_true, h2]
      refine containsFunc_c s w _ ?_
      intro w1 hm
      simp only [vc_ret, vcOps_nil, vcOps_cons, vcOps_gate, gateK_true, gate_true, goL_apply, thenQ_normal, upd_same, upd_other, updO_some, ev_tmp, ev_const, endQ_ret, endK, resK, packed, insVc, pickK, notK, ne_eq, not_false_eq_true, Nat.reduceEqDiff, List.nil_append, if_true]
      have e : nameB s = !decide (0 ≤ Lib.idxFunc (fun x => !(plainI x)) true s) := by
        have e1 : (!(s.toList == (⟨#[]⟩ : ByteArray).toList)) = true := h1
        have e2 : decide (s.size ≤ 32) = true := by simpa using (by omega : s.size ≤ 32)
        simp only [nameB, e1, e2, Bool.true_and]
      rw [e] at h
      exact h w1 hm
    · simp only [vc_ret, vcOps_nil, vcOps_cons, vcOps_gate, gateK_false, gate_true, goL_apply, thenQ_normal, upd_same, upd_other, updO_some, ev_tmp, ev_const, endQ_ret, endK, resK, packed, insVc, pickK, ne_eq, not_false_eq_true, Nat.reduceEqDiff, List.nil_append, if_false, Bool.false_eq_true, decide_false, h2]
      have e : nameB s = false := by
        have e2 : decide (s.size ≤ 32) = false := by simpa using (by omega : 32 < s.size)
        simp only [nameB, e2, Bool.and_false, Bool.false_and]
      rw [e] at h
      exact h w (Mod.refl _ _)
  · intro h1
    simp only [vc_ret, vcOps_nil, vcOps_cons, vcOps_gate, gateK_false, gate_true, goL_apply, thenQ_normal, upd_same, upd_other, updO_some, ev_tmp, ev_const, endQ_ret, endK, resK, packed, insVc, pickK, ne_eq, not_false_eq_true, Nat.reduceEqDiff, List.nil_append, if_false, Bool.false_eq_true, h1]
    have e : nameB s = false := by
      have e1 : (!(s.toList == (⟨#[]⟩ : ByteArray).toList)) = false := h1
      simp only [nameB, e1, Bool.false_and]
    rw [e] at h
    exact h w (Mod.refl _ _)

end Go.Oct
