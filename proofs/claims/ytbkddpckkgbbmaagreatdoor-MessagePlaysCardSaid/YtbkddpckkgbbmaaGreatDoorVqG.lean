import Derived.Test.YtbkddpckkgbbmaaGreatDoorVqC
import Derived.Test.YtbkddpckkgbbmaaGreatDoorVcT
set_option linter.unusedSimpArgs false
set_option linter.unusedVariables false
set_option linter.unusedSectionVars false
set_option linter.unnecessarySimpa false
namespace Go.Oct
open Go Go.Vc Go.VrA Go.VrB Go.VrC
set_option maxRecDepth 100000

/-! ### the reference's Less, ahead -/

def lessR : List Pt → List Pt → Bool
  | p :: l, q :: m => if p.t ≠ q.t then q.t else if p.t = true ∧ p.s ≠ q.s then decide (p.s.data.toList < q.s.data.toList) else if p.t = false ∧ p.n ≠ q.n then decide (p.n < q.n) else lessR l m
  | [], m => decide (0 < m.length)
  | _ :: _, [] => false

theorem lessR_cons (p q : Pt) (l m : List Pt) : lessR (p :: l) (q :: m) = if p.t ≠ q.t then q.t else if p.t = true ∧ p.s ≠ q.s then decide (p.s.data.toList < q.s.data.toList) else if p.t = false ∧ p.n ≠ q.n then decide (p.n < q.n) else lessR l m := rfl

def lessV (g g' i nl nm cap cap' : Nat) (p q : Pt) : List Value :=
  [.slice (some ⟨g, 0, none⟩) nl cap, .int .i64 i, .pointer (some ⟨g, i * 3, none⟩), p.val, .slice (some ⟨g', 0, none⟩) nm cap', .int .i64 i, .pointer (some ⟨g', i * 3, none⟩), q.val]

structure LessI (ρ : Env) (u : World) (S : List Value) (p q : Pt) (L : Nat → Bool) (ρ' : Env) (w' : World) : Prop where
  frame : ∀ t, (t = 0 ∨ t = 1 ∨ t = 5) → ρ' t = ρ t
  md : Mod (fun _ => False) u w'
  f : ∀ (k : Nat) v, S[k]? = some v → L k = true → ρ' (20 + k) = v
  f8 : L 8 = true → ∃ b c, ρ' 6 = .pointer (some ⟨b, 0, none⟩) ∧ u.heap.size ≤ b ∧ w'.heap[b]? = some (.cells c 234 (0, 0)) ∧ c.size = 3 ∧ (L 10 = true → c = p.cells.toArray)
  f9 : L 9 = true → ∃ b c, ρ' 7 = .pointer (some ⟨b, 0, none⟩) ∧ u.heap.size ≤ b ∧ w'.heap[b]? = some (.cells c 234 (0, 0)) ∧ c.size = 3 ∧ (L 11 = true → c = q.cells.toArray)
  f89 : L 8 = true → L 9 = true → ρ' 6 ≠ ρ' 7
  d10 : L 10 = true → L 8 = true
  d11 : L 11 = true → L 9 = true

theorem LessI.put {ρ ρ' : Env} {u w' : World} {S : List Value} {p q : Pt} {L : Nat → Bool} (h : LessI ρ u S p q L ρ' w') (k : Nat) (v : Value) (hk : k < 8) (hv : S[k]? = some v) :
    LessI ρ u S p q (fun j => j == k || L j) (upd ρ' (20 + k) v) w' := by
  have hL : ∀ j, 8 ≤ j → (j == k || L j) = true → L j = true := by
    intro j hj hb
    have : (j == k) = false := by simp; omega
    rw [this] at hb; exact hb
  refine ⟨fun t ht => ?_, h.md, fun j x hj hb => ?_, fun hb => ?_, fun hb => ?_, fun hb hb' => ?_, fun hb => ?_, fun hb => ?_⟩
  · rw [upd_other (by omega)]; exact h.frame t ht
  · by_cases hjk : j = k
    · subst hjk
      rw [upd_same]
      rw [hv] at hj; exact Option.some.inj hj
    · rw [upd_other (by omega)]
      have : (j == k) = false := by simpa using hjk
      rw [this] at hb
      exact h.f j x hj hb
  · obtain ⟨b, c, h1, h2, h3, h4, h5⟩ := h.f8 (hL 8 (by omega) hb)
    exact ⟨b, c, by rw [upd_other (by omega)]; exact h1, h2, h3, h4, fun hb => h5 (hL 10 (by omega) hb)⟩
  · obtain ⟨b, c, h1, h2, h3, h4, h5⟩ := h.f9 (hL 9 (by omega) hb)
    exact ⟨b, c, by rw [upd_other (by omega)]; exact h1, h2, h3, h4, fun hb => h5 (hL 11 (by omega) hb)⟩
  · rw [upd_other (by omega), upd_other (by omega)]
    exact h.f89 (hL 8 (by omega) hb) (hL 9 (by omega) hb')
  · rw [h.d10 (hL 10 (by omega) hb)]; simp
  · rw [h.d11 (hL 11 (by omega) hb)]; simp

theorem LessI.old {L : Nat → Bool} {k j : Nat} (hne : j ≠ k) (h : (j == k || L j) = true) : L j = true := by
  have : (j == k) = false := by simpa using hne
  rw [this] at h; exact h
theorem slots_lt {g g' i nl nm cap cap' : Nat} {p q : Pt} {k : Nat} {v : Value} (h : (lessV g g' i nl nm cap cap' p q)[k]? = some v) : k < 8 := (List.getElem?_eq_some_iff.1 h).1

theorem LessI.alloc6 {ρ ρ' : Env} {u w' : World} {g g' i nl nm cap cap' : Nat} {p q : Pt} {L : Nat → Bool} (h : LessI ρ u (lessV g g' i nl nm cap cap' p q) p q L ρ' w') (h8 : L 8 = false) (c : Array Value) (hc : c.size = 3) :
    LessI ρ u (lessV g g' i nl nm cap cap' p q) p q (fun j => j == 8 || L j) (upd ρ' 6 (.pointer (some ⟨w'.heap.size, 0, none⟩))) (w'.alloc (.cells c 234)) := by
  have h10 : L 10 ≠ true := fun x => by rw [h.d10 x] at h8; cases h8
  have hm : Mod (fun _ => False) w' (w'.alloc (.cells c 234)) := (Mod.refl _ _).alloc _
  refine ⟨fun t ht => ?_, h.md.trans hm, fun j x hj hb => ?_, fun _ => ?_, fun hb => ?_, fun _ hb' => ?_, fun hb => rfl, fun hb => ?_⟩
  · rw [upd_other (by omega)]; exact h.frame t ht
  · have := slots_lt hj
    rw [upd_other (by omega)]
    exact h.f j x hj (LessI.old (by omega) hb)
  · exact ⟨w'.heap.size, c, upd_same, h.md.size, get_alloc_new _ _, hc, fun hb => absurd (LessI.old (by decide) hb) h10⟩
  · obtain ⟨b, c', h1, h2, h3, h4, h5⟩ := h.f9 (LessI.old (by decide) hb)
    exact ⟨b, c', by rw [upd_other (by omega)]; exact h1, h2, hm.keep h3 id, h4, fun hb => h5 (LessI.old (by decide) hb)⟩
  · obtain ⟨b, c', h1, h2, h3, h4, h5⟩ := h.f9 (LessI.old (by decide) hb')
    rw [upd_same, upd_other (by omega), h1]
    intro e
    simp only [Value.pointer.injEq, Option.some.injEq, Addr.mk.injEq, and_true] at e
    have := lt_of_get h3
    omega
  · rw [h.d11 (LessI.old (by decide) hb)]; simp
theorem LessI.alloc7 {ρ ρ' : Env} {u w' : World} {g g' i nl nm cap cap' : Nat} {p q : Pt} {L : Nat → Bool} (h : LessI ρ u (lessV g g' i nl nm cap cap' p q) p q L ρ' w') (h9 : L 9 = false) (c : Array Value) (hc : c.size = 3) :
    LessI ρ u (lessV g g' i nl nm cap cap' p q) p q (fun j => j == 9 || L j) (upd ρ' 7 (.pointer (some ⟨w'.heap.size, 0, none⟩))) (w'.alloc (.cells c 234)) := by
  have h11 : L 11 ≠ true := fun x => by rw [h.d11 x] at h9; cases h9
  have hm : Mod (fun _ => False) w' (w'.alloc (.cells c 234)) := (Mod.refl _ _).alloc _
  refine ⟨fun t ht => ?_, h.md.trans hm, fun j x hj hb => ?_, fun hb => ?_, fun _ => ?_, fun hb _ => ?_, fun hb => ?_, fun hb => rfl⟩
  · rw [upd_other (by omega)]; exact h.frame t ht
  · have := slots_lt hj
    rw [upd_other (by omega)]
    exact h.f j x hj (LessI.old (by omega) hb)
  · obtain ⟨b, c', h1, h2, h3, h4, h5⟩ := h.f8 (LessI.old (by decide) hb)
    exact ⟨b, c', by rw [upd_other (by omega)]; exact h1, h2, hm.keep h3 id, h4, fun hb => h5 (LessI.old (by decide) hb)⟩
  · exact ⟨w'.heap.size, c, upd_same, h.md.size, get_alloc_new _ _, hc, fun hb => absurd (LessI.old (by decide) hb) h11⟩
  · obtain ⟨b, c', h1, h2, h3, h4, h5⟩ := h.f8 (LessI.old (by decide) hb)
    rw [upd_same, upd_other (by omega), h1]
    intro e
    simp only [Value.pointer.injEq, Option.some.injEq, Addr.mk.injEq, and_true] at e
    have := lt_of_get h3
    omega
  · rw [h.d10 (LessI.old (by decide) hb)]; simp

theorem LessI.set6 {ρ ρ' : Env} {u w' : World} {g g' i nl nm cap cap' b : Nat} {p q : Pt} {L : Nat → Bool} (h : LessI ρ u (lessV g g' i nl nm cap cap' p q) p q L ρ' w') (h8 : L 8 = true) (h9 : L 9 = true) (h6 : ρ' 6 = .pointer (some ⟨b, 0, none⟩)) :
    LessI ρ u (lessV g g' i nl nm cap cap' p q) p q (fun j => j == 10 || L j) ρ' (Vc.set w' b (.cells p.cells.toArray 234)) := by
  obtain ⟨b1, c, h1, h2, h3, h4, h5⟩ := h.f8 h8
  rw [h6] at h1
  have hb : b = b1 := by simpa using h1
  subst hb
  refine ⟨h.frame, h.md.set (.inl h2), fun j x hj hb => ?_, fun _ => ?_, fun hb => ?_, fun _ _ => h.f89 h8 h9, fun hb => ?_, fun hb => ?_⟩
  · have := slots_lt hj
    exact h.f j x hj (LessI.old (by omega) hb)
  · exact ⟨b, _, h6, h2, get_set_same _ _ _ (lt_of_get h3), rfl, fun _ => rfl⟩
  · obtain ⟨b', c', k1, k2, k3, k4, k5⟩ := h.f9 h9
    have hne : b' ≠ b := by
      intro e
      subst e
      exact h.f89 h8 h9 (h6.trans k1.symm)
    refine ⟨b', c', k1, k2, ?_, k4, fun hb => k5 (LessI.old (by decide) hb)⟩
    rw [get_set, if_neg (by intro x; exact hne x.1)]; exact k3
  · show (8 == 10 || L 8) = true
    rw [h8]; rfl
  · show (9 == 10 || L 9) = true
    rw [h9]; rfl
theorem LessI.set7 {ρ ρ' : Env} {u w' : World} {g g' i nl nm cap cap' b : Nat} {p q : Pt} {L : Nat → Bool} (h : LessI ρ u (lessV g g' i nl nm cap cap' p q) p q L ρ' w') (h8 : L 8 = true) (h9 : L 9 = true) (h7 : ρ' 7 = .pointer (some ⟨b, 0, none⟩)) :
    LessI ρ u (lessV g g' i nl nm cap cap' p q) p q (fun j => j == 11 || L j) ρ' (Vc.set w' b (.cells q.cells.toArray 234)) := by
  obtain ⟨b1, c, h1, h2, h3, h4, h5⟩ := h.f9 h9
  rw [h7] at h1
  have hb : b = b1 := by simpa using h1
  subst hb
  refine ⟨h.frame, h.md.set (.inl h2), fun j x hj hb => ?_, fun hb => ?_, fun _ => ?_, fun _ _ => h.f89 h8 h9, fun hb => ?_, fun hb => ?_⟩
  · have := slots_lt hj
    exact h.f j x hj (LessI.old (by omega) hb)
  · obtain ⟨b', c', k1, k2, k3, k4, k5⟩ := h.f8 h8
    have hne : b' ≠ b := by
      intro e
      subst e
      exact h.f89 h8 h9 (k1.trans h7.symm)
    refine ⟨b', c', k1, k2, ?_, k4, fun hb => k5 (LessI.old (by decide) hb)⟩
    rw [get_set, if_neg (by intro x; exact hne x.1)]; exact k3
  · exact ⟨b, _, h7, h2, get_set_same _ _ _ (lt_of_get h3), rfl, fun _ => rfl⟩
  · show (8 == 11 || L 8) = true
    rw [h8]; rfl
  · show (9 == 11 || L 9) = true
    rw [h9]; rfl

theorem rless_c (l m : List Pt) (v v' : Value) (w : World) (K : Value → World → Prop) (hv : IsRp w v l) (hv' : IsRp w v' m) (hl : l.length < 2 ^ 20) (hl' : m.length < 2 ^ 20)
    (h : ∀ w', Mod (fun _ => False) w w' → K (.bool (lessR l m)) w') :
    Ok Proofs.Tryz.prog 137 #[v, v'] w K := by
  obtain ⟨g, cap, cur, rfl, hg, hcur⟩ := hv
  obtain ⟨g', cap', cur', rfl, hg', hcur'⟩ := hv'
  refine F137.enter (args := [.slice (some ⟨g, 0, none⟩) l.length cap, .slice (some ⟨g', 0, none⟩) m.length cap']) (by simp) ?_
  unfold c137 r137
  simp only [vc_seq, vc_block, vc_ops, vcOps_nil, vcOps_cons, goL_apply, thenQ_normal, updO_some, ev_const, insVc]
  refine vc_loop (fun mm ρ ds u => ∃ i, i ≤ l.length ∧ i ≤ m.length ∧ mm = l.length - i ∧ ds = [] ∧ ρ 0 = .slice (some ⟨g, 0, none⟩) l.length cap ∧ ρ 1 = .slice (some ⟨g', 0, none⟩) m.length cap' ∧ ρ 5 = .int .i64 i ∧
    Mod (fun _ => False) w u ∧ lessR l m = lessR (l.drop i) (m.drop i)) (l.length - 0) ?_ ?_
  · exact ⟨0, Nat.zero_le _, Nat.zero_le _, rfl, rfl, by simp only [upd_other, initE_at, ne_eq, not_false_eq_true, reduceCtorEq, Option.getD_some, List.getElem?_cons_zero], by simp only [upd_other, initE_at, ne_eq, not_false_eq_true, Nat.reduceEqDiff, Option.getD_some, List.getElem?_cons_zero, List.getElem?_cons_succ], by simp only [upd_same]; rfl, Mod.refl _ _, by simp⟩
  · rintro mm ρ ds u ⟨i, hi, hi', rfl, rfl, h0, h1, h5, hmu, hk⟩
    have hgu := hmu.keep hg id
    have hgu' := hmu.keep hg' id
    by_cases c1 : i < l.length
    · have d1 : (i : Int) < ((l.length : Nat) : Int) := by omega
      by_cases c2 : i < m.length
      · have d2 : (i : Int) < ((m.length : Nat) : Int) := by omega
        obtain ⟨p, hpi⟩ : ∃ p, l[i]? = some p := ⟨l[i], List.getElem?_eq_getElem c1⟩
        obtain ⟨q, hqi⟩ : ∃ q, m[i]? = some q := ⟨m[i], List.getElem?_eq_getElem c2⟩
        obtain ⟨hsz, hex⟩ := rp_cells hcur hpi
        obtain ⟨hsz', hex'⟩ := rp_cells hcur' hqi
        have hdrop : l.drop i = p :: l.drop (i + 1) := List.drop_eq_getElem?_toList_append.trans (by rw [hpi]; rfl)
        have hdrop' : m.drop i = q :: m.drop (i + 1) := List.drop_eq_getElem?_toList_append.trans (by rw [hqi]; rfl)
        have hi0 : (0 : Int) ≤ (i : Int) ∧ (i : Int) < ((l.length : Nat) : Int) := by omega
        have hi1 : (0 : Int) ≤ (i : Int) ∧ (i : Int) < ((m.length : Nat) : Int) := by omega
        simp only [vc_skip, vc_seq, vc_cond, vc_block, vc_ops, vcOps_nil, vcOps_cons, vcOps_gate, gateK_true, gate_true, goL_apply, thenQ_normal, condP_true, upd_same, upd_other, updO_some, ev_tmp, ev_const, insVc, pickK, loadV_some, iopK, iopV, lenLK, ne_eq, not_false_eq_true, Nat.reduceEqDiff, reduceCtorEq, true_and, or_false, if_true, decide_true, h0, h1, h5, d1, d2]
        refine draw_i (fun L ρ' w' => LessI ρ u (lessV g g' i l.length m.length cap cap' p q) p q L ρ' w') (dp := [[], [], [0, 1], [2], [], [], [4, 5], [6], [], [], [8, 3, 0, 1, 2, 3, 8, 9], [9, 7, 10, 0, 1, 2, 3, 4, 5, 6, 7, 8, 9, 10]]) (by kernel_rfl) (by kernel_rfl) (by kernel_rfl) (by kernel_rfl) (by kernel_rfl) ?_ ?_ ?_
        · exact ⟨fun t ht => by rcases ht with rfl | rfl | rfl <;> simp only [upd_other, ne_eq, not_false_eq_true, Nat.reduceEqDiff, reduceCtorEq], (Mod.refl _ _).drew, fun _ _ _ h => (Bool.false_ne_true h).elim, fun h => (Bool.false_ne_true h).elim, fun h => (Bool.false_ne_true h).elim, fun h => (Bool.false_ne_true h).elim, fun h => (Bool.false_ne_true h).elim, fun h => (Bool.false_ne_true h).elim⟩
        · intro L ρ2 w2 k x d hx hd hL hdeps hI
          have hk12 : k < 12 := (List.getElem?_eq_some_iff.1 hx).1
          obtain rfl | rfl | rfl | rfl | rfl | rfl | rfl | rfl | rfl | rfl | rfl | rfl : k = 0 ∨ k = 1 ∨ k = 2 ∨ k = 3 ∨ k = 4 ∨ k = 5 ∨ k = 6 ∨ k = 7 ∨ k = 8 ∨ k = 9 ∨ k = 10 ∨ k = 11 := by omega
          all_goals (obtain rfl := Option.some.inj hx; obtain rfl := Option.some.inj hd)
          · have e := (hI.frame 0 (by decide)).trans h0
            simp only [updO_some, ev_tmp, insVc, e]
            exact hI.put 0 _ (by decide) rfl
          · have e := (hI.frame 5 (by decide)).trans h5
            simp only [updO_some, ev_tmp, insVc, e]
            exact hI.put 1 _ (by decide) rfl
          · have e := hI.f 0 _ rfl (hdeps 0 (by decide))
            have e' := hI.f 1 _ rfl (hdeps 1 (by decide))
            simp only [Nat.reduceAdd] at e e'
            simp only [updO_some, ev_tmp, insVc, iaddrK, true_and, and_self, Nat.zero_add, Int.toNat_natCast, e, e', hi0]
            exact hI.put 2 _ (by decide) rfl
          · have e := hI.f 2 _ rfl (hdeps 2 (by decide))
            simp only [Nat.reduceAdd] at e
            have hg2 := hI.md.keep hgu id
            simp only [updO_some, ev_tmp, insVc, loadNK, loadNO_cells, true_and, e, hg2, hsz, hex]
            exact hI.put 3 _ (by decide) rfl
          · have e := (hI.frame 1 (by decide)).trans h1
            simp only [updO_some, ev_tmp, insVc, e]
            exact hI.put 4 _ (by decide) rfl
          · have e := (hI.frame 5 (by decide)).trans h5
            simp only [updO_some, ev_tmp, insVc, e]
            exact hI.put 5 _ (by decide) rfl
          · have e := hI.f 4 _ rfl (hdeps 4 (by decide))
            have e' := hI.f 5 _ rfl (hdeps 5 (by decide))
            simp only [Nat.reduceAdd] at e e'
            simp only [updO_some, ev_tmp, insVc, iaddrK, true_and, and_self, Nat.zero_add, Int.toNat_natCast, e, e', hi1]
            exact hI.put 6 _ (by decide) rfl
          · have e := hI.f 6 _ rfl (hdeps 6 (by decide))
            simp only [Nat.reduceAdd] at e
            have hg2 := hI.md.keep hgu' id
            simp only [updO_some, ev_tmp, insVc, loadNK, loadNO_cells, true_and, e, hg2, hsz', hex']
            exact hI.put 7 _ (by decide) rfl
          · simp only [updO_some, insVc, Value.cells]
            exact hI.alloc6 hL _ rfl
          · simp only [updO_some, insVc, Value.cells]
            exact hI.alloc7 hL _ rfl
          · obtain ⟨b, c, k1, k2, k3, k4, k5⟩ := hI.f8 (hdeps 8 (by decide))
            have e := hI.f 3 _ rfl (hdeps 3 (by decide))
            simp only [Nat.reduceAdd] at e
            obtain ⟨x0, x1, x2, rfl⟩ : ∃ x0 x1 x2, c = #[x0, x1, x2] := by
              obtain ⟨l⟩ := c
              match l, k4 with
              | [x0, x1, x2], _ => exact ⟨x0, x1, x2, rfl⟩
            simp only [updO_none, ev_tmp, insVc, storeNK, storeNO_cells, setMany, isPlain, Nat.reduceAdd, Nat.reduceLeDiff, List.size_toArray, List.length_cons, List.length_nil, List.setIfInBounds_toArray, List.set_cons_zero, List.set_cons_succ, true_and, and_self, Nat.zero_add, Bool.and_true, List.all_toArray', List.all_cons, List.all_nil, k1, k3, e, Pt.val, Pt.cells]
            exact hI.set6 (hdeps 8 (by decide)) (hdeps 9 (by decide)) k1
          · obtain ⟨b, c, k1, k2, k3, k4, k5⟩ := hI.f9 (hdeps 9 (by decide))
            have e := hI.f 7 _ rfl (hdeps 7 (by decide))
            simp only [Nat.reduceAdd] at e
            obtain ⟨x0, x1, x2, rfl⟩ : ∃ x0 x1 x2, c = #[x0, x1, x2] := by
              obtain ⟨l⟩ := c
              match l, k4 with
              | [x0, x1, x2], _ => exact ⟨x0, x1, x2, rfl⟩
            simp only [updO_none, ev_tmp, insVc, storeNK, storeNO_cells, setMany, isPlain, Nat.reduceAdd, Nat.reduceLeDiff, List.size_toArray, List.length_cons, List.length_nil, List.setIfInBounds_toArray, List.set_cons_zero, List.set_cons_succ, true_and, and_self, Nat.zero_add, Bool.and_true, List.all_toArray', List.all_cons, List.all_nil, k1, k3, e, Pt.val, Pt.cells]
            exact hI.set7 (hdeps 8 (by decide)) (hdeps 9 (by decide)) k1
        · intro L ρ2 w2 hall hI
          have hops : (opsOf (sub (bodyOf Proofs.Tryz.f137) [1, 0, 1, 0, 0, 1, 0, 0, 0])).size = 12 := by kernel_rfl
          rw [hops] at hall
          obtain ⟨b, c, k1, _, k3, _, k5⟩ := hI.f8 (hall 8 (by decide))
          obtain ⟨b', c', k1', _, k3', _, k5'⟩ := hI.f9 (hall 9 (by decide))
          have hc := k5 (hall 10 (by decide))
          have hc' := k5' (hall 11 (by decide))
          subst hc
          subst hc'
          have r0 := (hI.frame 0 (by decide)).trans h0
          have r1 := (hI.frame 1 (by decide)).trans h1
          have r5 := (hI.frame 5 (by decide)).trans h5
          have hm2 := hmu.trans hI.md
          clear hI hall
          have f1 : (true != true) = false := rfl
          have f2 : (true != false) = true := rfl
          have f3 : (false != true) = true := rfl
          have f4 : (false != false) = false := rfl
          have hw1 : IntKind.i64.wrap ((i : Int) + 1) = ((i + 1 : Nat) : Int) := by rw [wrap_i64 _ (by omega)]; omega
          unfold Pt.cells at k3 k3'
          have hk2 := hk
          rw [hdrop, hdrop', lessR_cons] at hk2
          cases hpt : p.t with
          | true =>
            rw [hpt] at k3 hk2
            cases hqt : q.t with
            | true =>
              rw [hqt] at k3' hk2
              by_cases hs : p.s = q.s
              · have b1 : (!p.s.toList == q.s.toList) = false := by simp [hs]
                simp only [hs, ne_eq, not_true_eq_false, and_false, if_false, Bool.true_eq_false, false_and] at hk2
                simp only [vc_skip, vc_seq, vc_cond, vc_ops, vcOps_nil, vcOps_cons, vcOps_gate, gateK_true, gateK_false, gate_true, goL_apply, thenQ_normal, blockQ_normal, condP_false, upd_same, upd_other, updO_some, ev_tmp, ev_const, insVc, pickK, load1K, loadO_cells, loadV_some, iopK, iopV, sopK, sopV, bopK, notK, faddrK, ne_eq, not_false_eq_true, Nat.reduceEqDiff, reduceCtorEq, Bool.not_true, List.getElem?_cons_zero, List.getElem?_cons_succ, List.getElem?_toArray, true_and, or_false, if_true, if_false, Bool.false_eq_true, Nat.zero_add, Nat.add_zero, k1, k1', k3, k3', f1, b1, r0, r1, r5, hw1]
                exact ⟨l.length - (i + 1), by omega, i + 1, by omega, by omega, rfl, rfl, hm2, hk2⟩
              · have b1 : (!p.s.toList == q.s.toList) = true := by
                  simp only [ByteArray.toList_eq, Bool.not_eq_true', beq_eq_false_iff_ne]
                  intro e
                  exact hs (ByteArray.ext (Array.ext' e))
                simp only [hs, ne_eq, not_true_eq_false, not_false_eq_true, and_self, if_true, if_false] at hk2
                rw [hk2] at h
                simp only [vc_skip, vc_seq, vc_cond, vc_ret, vc_ops, vcOps_nil, vcOps_cons, vcOps_gate, gateK_true, gate_true, goL_apply, thenQ_normal, thenQ_ret, blockQ_ret, condP_true, condP_false, upd_same, upd_other, updO_some, ev_tmp, ev_const, endQ_ret, endK, resK, packed, insVc, pickK, load1K, loadO_cells, loadV_some, sopK, sopV, bopK, faddrK, ne_eq, not_false_eq_true, Nat.reduceEqDiff, List.getElem?_cons_zero, List.getElem?_cons_succ, List.getElem?_toArray, List.nil_append, if_true, Nat.zero_add, Nat.add_zero, k1, k1', k3, k3', f1, b1]
                rw [ByteArray.toList_eq, ByteArray.toList_eq, Go.Proofs.bytesLess_eq]
                exact h w2 hm2
            | false =>
              rw [hqt] at k3' hk2
              simp only [ne_eq, Bool.true_eq_false, not_false_eq_true, if_true] at hk2
              rw [hk2] at h
              simp only [vc_seq, vc_cond, vc_ret, vc_ops, vcOps_nil, vcOps_cons, goL_apply, thenQ_normal, thenQ_ret, blockQ_ret, condP_true, upd_same, upd_other, updO_some, ev_tmp, endQ_ret, endK, resK, packed, insVc, load1K, loadO_cells, loadV_some, bopK, faddrK, ne_eq, not_false_eq_true, Nat.reduceEqDiff, List.getElem?_cons_zero, List.getElem?_toArray, List.nil_append, if_true, Nat.add_zero, k1, k1', k3, k3', f2]
              exact h w2 hm2
          | false =>
            rw [hpt] at k3 hk2
            cases hqt : q.t with
            | true =>
              rw [hqt] at k3' hk2
              simp only [ne_eq, Bool.false_eq_true, not_false_eq_true, if_true] at hk2
              rw [hk2] at h
              simp only [vc_seq, vc_cond, vc_ret, vc_ops, vcOps_nil, vcOps_cons, goL_apply, thenQ_normal, thenQ_ret, blockQ_ret, condP_true, upd_same, upd_other, updO_some, ev_tmp, endQ_ret, endK, resK, packed, insVc, load1K, loadO_cells, loadV_some, bopK, faddrK, ne_eq, not_false_eq_true, Nat.reduceEqDiff, List.getElem?_cons_zero, List.getElem?_toArray, List.nil_append, if_true, Nat.add_zero, k1, k1', k3, k3', f3]
              exact h w2 hm2
            | false =>
              rw [hqt] at k3' hk2
              by_cases hs : p.n = q.n
              · have b1 : ((p.n : Int) != (q.n : Int)) = false := by simp [hs]
                simp only [hs, ne_eq, not_true_eq_false, and_false, if_false, Bool.false_eq_true, false_and] at hk2
                simp only [vc_skip, vc_seq, vc_cond, vc_ops, vcOps_nil, vcOps_cons, vcOps_gate, gateK_true, gateK_false, gate_true, goL_apply, thenQ_normal, blockQ_normal, condP_false, upd_same, upd_other, updO_some, ev_tmp, ev_const, insVc, pickK, load1K, loadO_cells, loadV_some, iopK, iopV, bopK, notK, faddrK, ne_eq, not_false_eq_true, Nat.reduceEqDiff, reduceCtorEq, Bool.not_false, List.getElem?_cons_zero, List.getElem?_cons_succ, List.getElem?_toArray, true_and, or_false, if_true, if_false, Bool.false_eq_true, Nat.zero_add, Nat.add_zero, k1, k1', k3, k3', f4, b1, r0, r1, r5, hw1]
                exact ⟨l.length - (i + 1), by omega, i + 1, by omega, by omega, rfl, rfl, hm2, hk2⟩
              · have b1 : ((p.n : Int) != (q.n : Int)) = true := by rw [bne_iff_ne]; omega
                simp only [hs, ne_eq, not_true_eq_false, not_false_eq_true, and_self, if_true, if_false, Bool.false_eq_true, false_and] at hk2
                rw [hk2] at h
                have b2 : decide ((p.n : Int) < (q.n : Int)) = decide (p.n < q.n) := by simp
                simp only [vc_skip, vc_seq, vc_cond, vc_ret, vc_ops, vcOps_nil, vcOps_cons, vcOps_gate, gateK_true, gateK_false, gate_true, goL_apply, thenQ_normal, thenQ_ret, blockQ_ret, condP_true, condP_false, upd_same, upd_other, updO_some, ev_tmp, ev_const, endQ_ret, endK, resK, packed, insVc, pickK, load1K, loadO_cells, loadV_some, iopK, iopV, bopK, notK, faddrK, ne_eq, not_false_eq_true, Nat.reduceEqDiff, reduceCtorEq, Bool.not_false, List.getElem?_cons_zero, List.getElem?_cons_succ, List.getElem?_toArray, List.nil_append, true_and, or_false, if_true, if_false, Bool.false_eq_true, Nat.zero_add, Nat.add_zero, k1, k1', k3, k3', f4, b1]
                rw [b2]
                exact h w2 hm2
      · have d2 : ¬ (i : Int) < ((m.length : Nat) : Int) := by omega
        simp only [vc_seq, vc_cond, vc_exit, vc_ret, vc_ops, vcOps_nil, vcOps_cons, vcOps_gate, gateK_true, gate_true, goL_apply, thenQ_normal, thenQ_exit, blockQ_same, condP_false, upd_same, upd_other, updO_some, ev_tmp, ev_const, endQ_ret, endK, resK, packed, insVc, pickK, loadV_some, iopK, iopV, lenLK, ne_eq, not_false_eq_true, Nat.reduceEqDiff, reduceCtorEq, List.nil_append, true_and, or_false, if_true, decide_true, decide_false, h0, h1, h5, d1, d2]
        have hi2 : i = m.length := by omega
        have e1 : lessR l m = false := by
          obtain ⟨p, hpi⟩ : ∃ p, l[i]? = some p := ⟨l[i], List.getElem?_eq_getElem c1⟩
          have hdrop : l.drop i = p :: l.drop (i + 1) := List.drop_eq_getElem?_toList_append.trans (by rw [hpi]; rfl)
          rw [hk, hdrop, hi2, List.drop_length]; rfl
        have e2 : decide (((l.length : Nat) : Int) < ((m.length : Nat) : Int)) = false := by simp; omega
        rw [e2]
        rw [e1] at h
        exact h u hmu
    · have d1 : ¬ (i : Int) < ((l.length : Nat) : Int) := by omega
      simp only [vc_seq, vc_cond, vc_exit, vc_ret, vc_ops, vcOps_nil, vcOps_cons, vcOps_gate, gateK_false, gate_true, goL_apply, thenQ_normal, thenQ_exit, blockQ_same, condP_false, upd_same, upd_other, updO_some, ev_tmp, ev_const, endQ_ret, endK, resK, packed, insVc, pickK, loadV_some, iopK, iopV, lenLK, ne_eq, not_false_eq_true, Nat.reduceEqDiff, reduceCtorEq, List.nil_append, true_and, or_false, if_false, Bool.false_eq_true, decide_false, h0, h1, h5, d1]
      have hi2 : i = l.length := by omega
      have e1 : lessR l m = decide (i < m.length) := by
        rw [hk, hi2, List.drop_length]
        show decide (0 < (m.drop l.length).length) = _
        rw [List.length_drop]
        congr 1
        exact propext (by omega)
      have e2 : decide (((l.length : Nat) : Int) < ((m.length : Nat) : Int)) = decide (i < m.length) := by rw [hi2]; congr 1; exact propext (by omega)
      rw [e2, ← e1]
      exact h u hmu

/-- of two messages: by queue and number. -/
def aheadR (a b : Ms) : Bool := lessR [str a.queue, num' a.id] [str b.queue, num' b.id]

theorem ahead_c (a b : Ms) (w : World) (K : Value → World → Prop) (h : ∀ w', Mod (fun _ => False) w w' → K (.bool (aheadR a b)) w') :
    Ok Proofs.Tryz.prog 68 #[a.val, b.val] w K := by
  refine F68.enter (args := [a.val, b.val]) (by simp) ?_
  unfold c68 r68
  simp only [vc_seq, vc_ops, vcOps_nil, vcOps_cons, goL_apply, thenQ_normal, upd_other, updO_some, ev_tmp, ev_const, initE_at, insVc, Value.cells, ne_eq, not_false_eq_true, Nat.reduceEqDiff, Option.getD_some, List.getElem?_cons_zero, List.getElem?_cons_succ, size_alloc, Ms.val, Ms.cells]
  refine vc_gen ?_
  intro w1 hw1
  have hm1 : Mod (fun _ => False) w w1 := by rw [hw1]; exact ((Mod.refl _ _).alloc _).alloc _
  have p1 : w1.heap[w.heap.size]? = some (.cells #[.string a.queue, .int .u64 a.id, .int .u32 a.tries, .int .u64 a.expiry, .string a.body] 49 (0, 0)) := by rw [hw1]; simp only [if_true, if_false, size_alloc, get_alloc, size_alloc, Nat.left_eq_add, Nat.one_ne_zero]
  have q1 : w1.heap[w.heap.size + 1]? = some (.cells #[.string b.queue, .int .u64 b.id, .int .u32 b.tries, .int .u64 b.expiry, .string b.body] 49 (0, 0)) := by rw [hw1]; simp only [if_true, if_false, size_alloc, get_alloc, size_alloc, Nat.add_eq_left, Nat.one_ne_zero]
  clear hw1
  refine draw_f [fun v _ => v = .pointer (some ⟨w.heap.size, 0, none⟩), fun v _ => v = .string a.queue, fun v _ => v = (str a.queue).val, fun v _ => v = .pointer (some ⟨w.heap.size, 1, none⟩), fun v _ => v = .int .u64 a.id, fun v _ => v = (num' a.id).val,
    fun v W => IsRp W v [str a.queue, num' a.id], fun v _ => v = .pointer (some ⟨w.heap.size + 1, 0, none⟩), fun v _ => v = .string b.queue, fun v _ => v = (str b.queue).val, fun v _ => v = .pointer (some ⟨w.heap.size + 1, 1, none⟩), fun v _ => v = .int .u64 b.id, fun v _ => v = (num' b.id).val,
    fun v W => IsRp W v [str b.queue, num' b.id], fun v _ => v = .bool (aheadR a b), fun v _ => v = .bool (aheadR a b)]
    (dp := [[], [0], [1], [], [3], [4, 2], [2, 5], [], [7], [8, 5], [], [10], [11, 9], [9, 12], [6, 13, 12], [14, 14, 0, 1, 2, 3, 4, 5, 6, 7, 8, 9, 10, 11, 12, 13, 14]]) (by kernel_rfl) (by kernel_rfl) (by kernel_rfl) (by kernel_rfl) (by kernel_rfl) (by decide) ⟨by kernel_rfl, by kernel_rfl⟩ ?_ ?_ ?_
  · intro F hF v W W' hm hv
    simp only [List.mem_cons, List.not_mem_nil, or_false] at hF
    rcases hF with rfl | rfl | rfl | rfl | rfl | rfl | rfl | rfl | rfl | rfl | rfl | rfl | rfl | rfl | rfl | rfl
    any_goals exact hv
    · exact IsRp.keep hv hm (fun _ _ x => x)
    · exact IsRp.keep hv hm (fun _ _ x => x)
  · intro k x d F ρ2 w2 hx hd hF hm2 hfr hf K' hK
    have hk : k < 16 := (List.getElem?_eq_some_iff.1 hx).1
    have hp := hm2.keep p1 id
    have hq := hm2.keep q1 id
    obtain rfl | rfl | rfl | rfl | rfl | rfl | rfl | rfl | rfl | rfl | rfl | rfl | rfl | rfl | rfl | rfl : k = 0 ∨ k = 1 ∨ k = 2 ∨ k = 3 ∨ k = 4 ∨ k = 5 ∨ k = 6 ∨ k = 7 ∨ k = 8 ∨ k = 9 ∨ k = 10 ∨ k = 11 ∨ k = 12 ∨ k = 13 ∨ k = 14 ∨ k = 15 := by omega
    all_goals (obtain rfl := Option.some.inj hx; obtain rfl := Option.some.inj hd; obtain rfl := Option.some.inj hF)
    · have e := hfr 2 (by decide)
      simp only [upd_same, upd_other, ne_eq, not_false_eq_true, Nat.reduceEqDiff] at e
      simp only [ev_tmp, insVc, faddrK, Nat.add_zero, e]
      exact hK _ _ (Mod.refl _ _) rfl
    · have e := hf 0 (by decide) _ _ _ rfl rfl rfl
      simp only [ev_tmp, insVc, load1K, loadO_cells, loadV_some, List.getElem?_cons_zero, List.getElem?_toArray, e, hp]
      exact hK _ _ (Mod.refl _ _) rfl
    · have e := hf 1 (by decide) _ _ _ rfl rfl rfl
      simp only [ev_tmp, insVc, List.map_cons, List.map_nil, e]
      exact rstr_c _ _ _ (fun w' hm' => hK _ _ hm' rfl)
    · have e := hfr 2 (by decide)
      simp only [upd_same, upd_other, ne_eq, not_false_eq_true, Nat.reduceEqDiff] at e
      simp only [ev_tmp, insVc, faddrK, Nat.zero_add, e]
      exact hK _ _ (Mod.refl _ _) rfl
    · have e := hf 3 (by decide) _ _ _ rfl rfl rfl
      simp only [ev_tmp, insVc, load1K, loadO_cells, loadV_some, List.getElem?_cons_zero, List.getElem?_cons_succ, List.getElem?_toArray, e, hp]
      exact hK _ _ (Mod.refl _ _) rfl
    · have e := hf 4 (by decide) _ _ _ rfl rfl rfl
      simp only [ev_tmp, insVc, List.map_cons, List.map_nil, e]
      exact rnum_c _ _ _ (fun w' hm' => hK _ _ hm' rfl)
    · have e := hf 2 (by decide) _ _ _ rfl rfl rfl
      have e' := hf 5 (by decide) _ _ _ rfl rfl rfl
      simp only [ev_tmp, insVc, fillL, buildSK, Value.cells, Nat.reduceAdd, Nat.reduceLeDiff, List.size_toArray, List.length_cons, List.length_nil, List.zipIdx_cons, List.zipIdx_nil, List.foldl_cons, List.foldl_nil, List.setIfInBounds_toArray, List.set_cons_zero, List.set_cons_succ, List.toList_toArray, and_self, if_true, Nat.zero_add, Nat.add_zero, e, e', Pt.val, Pt.cells]
      exact hK _ _ ((Mod.refl _ _).alloc _) (rp_lit w2 [str a.queue, num' a.id] _ rfl)
    · have e := hfr 3 (by decide)
      simp only [upd_same, upd_other, ne_eq, not_false_eq_true, Nat.reduceEqDiff] at e
      simp only [ev_tmp, insVc, faddrK, Nat.add_zero, e]
      exact hK _ _ (Mod.refl _ _) rfl
    · have e := hf 7 (by decide) _ _ _ rfl rfl rfl
      simp only [ev_tmp, insVc, load1K, loadO_cells, loadV_some, List.getElem?_cons_zero, List.getElem?_toArray, e, hq]
      exact hK _ _ (Mod.refl _ _) rfl
    · have e := hf 8 (by decide) _ _ _ rfl rfl rfl
      simp only [ev_tmp, insVc, List.map_cons, List.map_nil, e]
      exact rstr_c _ _ _ (fun w' hm' => hK _ _ hm' rfl)
    · have e := hfr 3 (by decide)
      simp only [upd_same, upd_other, ne_eq, not_false_eq_true, Nat.reduceEqDiff] at e
      simp only [ev_tmp, insVc, faddrK, Nat.zero_add, e]
      exact hK _ _ (Mod.refl _ _) rfl
    · have e := hf 10 (by decide) _ _ _ rfl rfl rfl
      simp only [ev_tmp, insVc, load1K, loadO_cells, loadV_some, List.getElem?_cons_zero, List.getElem?_cons_succ, List.getElem?_toArray, e, hq]
      exact hK _ _ (Mod.refl _ _) rfl
    · have e := hf 11 (by decide) _ _ _ rfl rfl rfl
      simp only [ev_tmp, insVc, List.map_cons, List.map_nil, e]
      exact rnum_c _ _ _ (fun w' hm' => hK _ _ hm' rfl)
    · have e := hf 9 (by decide) _ _ _ rfl rfl rfl
      have e' := hf 12 (by decide) _ _ _ rfl rfl rfl
      simp only [ev_tmp, insVc, fillL, buildSK, Value.cells, Nat.reduceAdd, Nat.reduceLeDiff, List.size_toArray, List.length_cons, List.length_nil, List.zipIdx_cons, List.zipIdx_nil, List.foldl_cons, List.foldl_nil, List.setIfInBounds_toArray, List.set_cons_zero, List.set_cons_succ, List.toList_toArray, and_self, if_true, Nat.zero_add, Nat.add_zero, e, e', Pt.val, Pt.cells]
      exact hK _ _ ((Mod.refl _ _).alloc _) (rp_lit w2 [str b.queue, num' b.id] _ rfl)
    · have e := hf 6 (by decide) _ _ _ rfl rfl rfl
      have e' := hf 13 (by decide) _ _ _ rfl rfl rfl
      simp only [ev_tmp, insVc, List.map_cons, List.map_nil]
      exact rless_c _ _ _ _ _ _ e e' (by simp) (by simp) (fun w' hm' => hK _ _ hm' rfl)
    · have e := hf 14 (by decide) _ _ _ rfl rfl rfl
      simp only [ev_tmp, insVc, e]
      exact hK _ _ (Mod.refl _ _) rfl
  · intro ρ2 w2 hm2 _ hf
    have e := hf 15 _ _ _ rfl rfl rfl
    simp only [vc_ret, thenQ_normal, endQ_ret, endK, resK, packed, List.nil_append, e]
    exact h w2 (hm1.trans hm2)

end Go.Oct

namespace Go.Oct
open Go Go.Vc Go.VrA Go.VrB Go.VrC
set_option maxRecDepth 100000

/-! ### the reference's Box: Find -/

/-- messages, in memory. -/
def IsBx (w : World) (v : Value) (l : List Ms) : Prop :=
  (∃ a c, v = .slice a l.length c) ∧ ∀ (i : Nat) m, l[i]? = some m → ∃ b o c cur t f, v = .slice (some ⟨b, o, none⟩) l.length c ∧ w.heap[b]? = some (.cells cur t f) ∧ o + i * 5 + 5 ≤ cur.size ∧ cur.extract (o + i * 5) (o + i * 5 + 5) = m.cells.toArray
theorem IsBx.mod {w w' : World} {S : Nat → Prop} {v : Value} {l : List Ms} (h : IsBx w v l) (hm : Mod S w w') (hS : ∀ k, v.ownBlock = some k → ¬ S k) : IsBx w' v l :=
  ⟨h.1, fun i x hx => by obtain ⟨b, o, c, cur, t, f, h1, h2, h3⟩ := h.2 i x hx; exact ⟨b, o, c, cur, t, f, h1, hm.keep h2 (hS b (by rw [h1]; rfl)), h3⟩⟩
theorem IsBx.keep {w w' : World} {v : Value} {l : List Ms} (h : IsBx w v l) (hm : Mod (fun _ => False) w w') : IsBx w' v l := h.mod hm (fun _ _ x => x)
theorem IsBx.nil (w : World) : IsBx w (.slice none 0 0) [] := ⟨⟨none, 0, rfl⟩, fun i x hx => by simp at hx⟩
theorem IsBx.own {w : World} {B : Nat} {v : Value} {l : List Ms} (h : w.ownsRow B 49 5 v l.length (l.flatMap Ms.cells)) : IsBx w v l := by
  rcases h.2 with ⟨rfl, h0⟩ | ⟨g, cap, cur, rfl, _, hg, _, _, hs, hc⟩
  · have : l = [] := List.length_eq_zero_iff.1 h0
    subst this; exact IsBx.nil w
  · refine ⟨⟨_, _, rfl⟩, fun i m hm => ⟨g, 0, cap, cur, _, _, rfl, hg, ?_⟩⟩
    have h' : (cur.toList.drop 0).take (l.length * 5) = l.flatMap Ms.cells := by simpa using hc
    have := row_at (s := 5) (cells := Ms.cells) (fun _ => rfl) h' (j := i) (p := m) hm (by decide)
    simpa using this

def findL (q : ByteArray) (n : Nat) : List Ms → Nat → Int
  | [], _ => -1
  | m :: r, i => if m.queue = q ∧ m.id = n then (i : Int) else findL q n r (i + 1)
theorem findL_cons (q : ByteArray) (n : Nat) (m : Ms) (r : List Ms) (i : Nat) : findL q n (m :: r) i = if m.queue = q ∧ m.id = n then (i : Int) else findL q n r (i + 1) := rfl

theorem rfind_c (l : List Ms) (q : ByteArray) (n : Nat) (v : Value) (w : World) (K : Value → World → Prop) (hv : IsBx w v l) (hl : l.length < 2 ^ 20)
    (h : ∀ w', Mod (fun _ => False) w w' → K (.int .i64 (findL q n l 0)) w') : Ok Proofs.Tryz.prog 23 #[v, .string q, .int .u64 n] w K := by
  obtain ⟨⟨a, cp, rfl⟩, hat⟩ := hv
  refine F23.enter (args := [.slice a l.length cp, .string q, .int .u64 n]) (by simp) ?_
  unfold c23 r23
  simp only [vc_seq, vc_block, vc_ops, vcOps_nil, vcOps_cons, goL_apply, thenQ_normal, upd_same, upd_other, updO_some, ev_tmp, ev_const, initE_at, insVc, lenLK, ne_eq, not_false_eq_true, reduceCtorEq, Option.getD_some, List.getElem?_cons_zero, Int.reduceNeg]
  refine vc_loop (fun mm ρ ds u => ∃ i, i ≤ l.length ∧ mm = l.length - i ∧ ds = [] ∧ ρ 1 = .string q ∧ ρ 2 = .int .u64 n ∧ ρ 9 = .slice a l.length cp ∧ ρ 10 = .int .i64 l.length ∧ ρ 11 = .int .i64 i ∧
    Mod (fun _ => False) w u ∧ findL q n l 0 = findL q n (l.drop i) i) (l.length - 0) ?_ ?_
  · exact ⟨0, Nat.zero_le _, rfl, rfl, by simp only [upd_other, initE_at, ne_eq, not_false_eq_true, Nat.reduceEqDiff, Option.getD_some, List.getElem?_cons_zero, List.getElem?_cons_succ], by simp only [upd_other, initE_at, ne_eq, not_false_eq_true, Nat.reduceEqDiff, Option.getD_some, List.getElem?_cons_zero, List.getElem?_cons_succ], by simp only [upd_same, upd_other, ne_eq, not_false_eq_true, Nat.reduceEqDiff], by simp only [upd_same, upd_other, ne_eq, not_false_eq_true, Nat.reduceEqDiff], by simp only [upd_same]; rfl, Mod.refl _ _, by simp⟩
  · rintro mm ρ ds u ⟨i, hi, rfl, rfl, h1, h2, h9, h10, h11, hmu, hk⟩
    by_cases c1 : i < l.length
    · have d1 : (i : Int) < ((l.length : Nat) : Int) := by omega
      obtain ⟨m, hmi⟩ : ∃ m, l[i]? = some m := ⟨l[i], List.getElem?_eq_getElem c1⟩
      obtain ⟨b, o, c, cur, t, f, he, hb, hsz, hex⟩ := hat i m hmi
      have hbu := hmu.keep hb id
      rw [Nat.add_assoc] at hsz hex
      have ha : a = some ⟨b, o, none⟩ := by simpa using congrArg (fun x => match x with | .slice a _ _ => a | _ => none) he
      subst ha
      have hdrop : l.drop i = m :: l.drop (i + 1) := List.drop_eq_getElem?_toList_append.trans (by rw [hmi]; rfl)
      have hi0 : (0 : Int) ≤ (i : Int) ∧ (i : Int) < ((l.length : Nat) : Int) := by omega
      have hw1 : IntKind.i64.wrap ((i : Int) + 1) = ((i + 1 : Nat) : Int) := by rw [wrap_i64 _ (by omega)]; omega
      rw [hdrop, findL_cons] at hk
      by_cases hq : m.queue = q
      · have b1 : (m.queue.toList == q.toList) = true := by simp [hq]
        by_cases hn : m.id = n
        · have b2 : ((m.id : Int) == (n : Int)) = true := by simp [hn]
          rw [if_pos ⟨hq, hn⟩] at hk
          rw [hk] at h
          simp only [vc_skip, vc_seq, vc_cond, vc_block, vc_ret, vc_ops, vcOps_nil, vcOps_cons, vcOps_gate, gateK_true, gate_true, goL_apply, thenQ_normal, thenQ_ret, blockQ_ret, condP_true, upd_same, upd_other, updO_some, updO_none, ev_tmp, ev_const, endQ_ret, endK, resK, packed, insVc, pickK, load1K, loadO_cells, loadV_some, loadNK, loadNO_cells, storeNK, storeNO_cells, setMany, iopK, iopV, sopK, sopV, faddrK, iaddrK, isPlain, Value.cells, ne_eq, not_false_eq_true, Nat.reduceEqDiff, Nat.reduceAdd, Nat.reduceLeDiff, reduceCtorEq, List.getElem?_cons_zero, List.getElem?_cons_succ, List.getElem?_toArray, List.size_toArray, List.length_cons, List.length_nil, List.setIfInBounds_toArray, List.set_cons_zero, List.set_cons_succ, List.nil_append, true_and, or_false, and_self, if_true, Nat.zero_add, Nat.add_zero, decide_true, Bool.and_true, Int.toNat_natCast, Int.reduceNeg, List.all_toArray', List.all_cons, List.all_nil, size_alloc, get_set_same, Nat.lt_add_one, get_alloc, size_alloc, Nat.add_assoc, Nat.reduceAdd, Nat.reduceEqDiff, h1, h2, h9, h10, h11, d1, hi0, hbu, hsz, hex, Ms.cells, b1, b2]
          exact h _ (hmu.trans (((Mod.refl _ _).alloc _).set (.inl (Nat.le_refl _))))
        · have b2 : ((m.id : Int) == (n : Int)) = false := by rw [beq_eq_false_iff_ne]; omega
          rw [if_neg (fun x => hn x.2)] at hk
          simp only [vc_skip, vc_seq, vc_cond, vc_block, vc_ops, vcOps_nil, vcOps_cons, vcOps_gate, gateK_true, gate_true, goL_apply, thenQ_normal, blockQ_normal, condP_true, condP_false, upd_same, upd_other, updO_some, updO_none, ev_tmp, ev_const, insVc, pickK, load1K, loadO_cells, loadV_some, loadNK, loadNO_cells, storeNK, storeNO_cells, setMany, iopK, iopV, sopK, sopV, faddrK, iaddrK, isPlain, Value.cells, ne_eq, not_false_eq_true, Nat.reduceEqDiff, Nat.reduceAdd, Nat.reduceLeDiff, reduceCtorEq, List.getElem?_cons_zero, List.getElem?_cons_succ, List.getElem?_toArray, List.size_toArray, List.length_cons, List.length_nil, List.setIfInBounds_toArray, List.set_cons_zero, List.set_cons_succ, true_and, or_false, and_self, if_true, Nat.zero_add, Nat.add_zero, decide_true, Bool.and_true, Int.toNat_natCast, Int.reduceNeg, List.all_toArray', List.all_cons, List.all_nil, size_alloc, get_set_same, Nat.lt_add_one, get_alloc, size_alloc, Nat.add_assoc, Nat.reduceAdd, Nat.reduceEqDiff, h1, h2, h9, h10, h11, d1, hi0, hbu, hsz, hex, Ms.cells, b1, b2, hw1]
          exact ⟨l.length - (i + 1), by omega, i + 1, by omega, rfl, rfl, hmu.trans (((Mod.refl _ _).alloc _).set (.inl (Nat.le_refl _))), hk⟩
      · have b1 : (m.queue.toList == q.toList) = false := by
          rw [beq_eq_false_iff_ne, ByteArray.toList_eq, ByteArray.toList_eq]
          intro e
          exact hq (ByteArray.ext (Array.ext' e))
        rw [if_neg (fun x => hq x.1)] at hk
        simp only [vc_skip, vc_seq, vc_cond, vc_block, vc_ops, vcOps_nil, vcOps_cons, vcOps_gate, gateK_false, gate_true, goL_apply, thenQ_normal, blockQ_normal, condP_true, condP_false, upd_same, upd_other, updO_some, updO_none, ev_tmp, ev_const, insVc, pickK, load1K, loadO_cells, loadV_some, loadNK, loadNO_cells, storeNK, storeNO_cells, setMany, iopK, iopV, sopK, sopV, faddrK, iaddrK, isPlain, Value.cells, ne_eq, not_false_eq_true, Nat.reduceEqDiff, Nat.reduceAdd, Nat.reduceLeDiff, reduceCtorEq, List.getElem?_cons_zero, List.getElem?_toArray, List.size_toArray, List.length_cons, List.length_nil, List.setIfInBounds_toArray, List.set_cons_zero, List.set_cons_succ, true_and, or_false, and_self, if_true, if_false, Bool.false_eq_true, Nat.zero_add, Nat.add_zero, decide_true, Bool.and_true, Int.toNat_natCast, Int.reduceNeg, List.all_toArray', List.all_cons, List.all_nil, size_alloc, get_set_same, Nat.lt_add_one, get_alloc, size_alloc, Nat.add_assoc, Nat.reduceAdd, Nat.reduceEqDiff, h1, h2, h9, h10, h11, d1, hi0, hbu, hsz, hex, Ms.cells, b1, hw1]
        exact ⟨l.length - (i + 1), by omega, i + 1, by omega, rfl, rfl, hmu.trans (((Mod.refl _ _).alloc _).set (.inl (Nat.le_refl _))), hk⟩
    · have d1 : ¬ (i : Int) < ((l.length : Nat) : Int) := by omega
      have hi2 : i = l.length := by omega
      rw [hi2, List.drop_length] at hk
      rw [hk] at h
      simp only [vc_seq, vc_cond, vc_exit, vc_ret, vc_ops, vcOps_nil, vcOps_cons, goL_apply, thenQ_normal, thenQ_exit, blockQ_same, condP_false, upd_same, updO_some, ev_tmp, ev_const, endQ_ret, endK, resK, packed, insVc, loadV_some, iopK, iopV, reduceCtorEq, List.nil_append, true_and, or_false, decide_false, Int.reduceNeg, h10, h11, d1]
      exact h u hmu

end Go.Oct

namespace Go.Oct
open Go Go.Vc Go.VrA Go.VrB Go.VrC
set_option maxRecDepth 100000

/-! ### the reference's Box: With, Add -/

theorem append_bx (t : TypeId) (ht : Proofs.Tryz.prog.underlying t = some (.slice 49)) (B : Nat) (v : Value) (l : List Ms) (q : Ms) (w : World) (hown : w.ownsRow B 49 5 v l.length (l.flatMap Ms.cells)) (hB : B ≤ w.heap.size) (hl : l.length < 2 ^ 20) (ty : TypeId) :
    ∃ v' w', (Builtin.append_ #[t, t] ty #[v, .slice (some ⟨w.heap.size, 0, none⟩) 1 1]).run Proofs.Tryz.prog (w.alloc (.cells q.cells.toArray 49)) = .ok v' w' ∧
      w'.ownsRow B 49 5 v' (l ++ [q]).length ((l ++ [q]).flatMap Ms.cells) ∧ Mod (fun k => v.ownBlock = some k) w w' ∧ (∀ k, v'.ownBlock = some k → v.ownBlock = some k ∨ w.heap.size ≤ k) := by
  obtain ⟨i, hi, hi1, hi2⟩ := info_of info_ms
  have hm1 : Mod (fun _ => False) w (w.alloc (.cells q.cells.toArray 49)) := (Mod.refl _ _).alloc _
  have hown1 := own_keep' hown hm1 (fun _ _ x => x)
  have hsrc : Src Proofs.Tryz.prog 5 t (.slice (some ⟨w.heap.size, 0, none⟩) 1 1) 1 q.cells (w.alloc (.cells q.cells.toArray 49)) := by
    refine Src.ofSlice _ (e' := 49) ht ⟨w.heap.size, 0, none⟩ 1 1 _ (by simp [Ms.cells]) ?_ ?_
    · intro j u hj
      have hgn := get_alloc_new w (.cells q.cells.toArray 49)
      rw [List.getElem?_toArray.symm] at hj
      simp only [World.cell?, Addr.add_lit, Nat.zero_add, hgn]
      exact hj
    · intro u hu
      simp only [Ms.cells, List.mem_cons, List.not_mem_nil, or_false] at hu
      rcases hu with rfl | rfl | rfl | rfl | rfl <;> rfl
  obtain ⟨v', w', hr, ho, hm, hb⟩ := run_append_mine (P := Proofs.Tryz.prog) B t t ty 49 i _ 5 ht hi hi1 hi2.1 rfl (by decide) v l.length _ hown1 _ 1 _ hsrc (by simp [maxLen]; omega) (by rw [hi2.2]; omega) (Nat.le_trans hB hm1.size)
  refine ⟨v', w', hr, ?_, (hm1.mono fun _ _ x => x.elim).then hm (fun k _ hk => hk), ?_⟩
  · simpa using ho
  · intro k hk
    rcases hb with hb | hb
    · exact .inl (hb ▸ hk)
    · rw [hb] at hk
      have : (w.alloc (.cells q.cells.toArray 49)).heap.size = k := Option.some.inj hk
      rw [size_alloc] at this
      exact .inr (by omega)

def insR (m : Ms) : List Ms → List Ms
  | [] => [m]
  | x :: r => if aheadR m x = true then m :: x :: r else x :: insR m r
theorem insR_cons (m x : Ms) (r : List Ms) : insR m (x :: r) = if aheadR m x = true then m :: x :: r else x :: insR m r := rfl

theorem rwith_c (l : List Ms) (m : Ms) (v : Value) (w : World) (K : Value → World → Prop) (hv : IsBx w v l) (hl : l.length < 2 ^ 19)
    (h : ∀ w' v', Mod (fun _ => False) w w' → IsBx w' v' (insR m l) → K v' w') : Ok Proofs.Tryz.prog 64 #[v, m.val] w K := by
  obtain ⟨⟨a, cp, rfl⟩, hat⟩ := hv
  refine F64.enter (args := [.slice a l.length cp, m.val]) (by simp) ?_
  unfold c64 r64
  simp only [vc_seq, vc_block, vc_ops, vcOps_nil, vcOps_cons, goL_apply, thenQ_normal, upd_same, upd_other, updO_some, ev_tmp, ev_const, initE_at, insVc, lenLK, Value.cells, ne_eq, not_false_eq_true, reduceCtorEq, Option.getD_some, List.getElem?_cons_zero, List.getElem?_cons_succ, Ms.val, Ms.cells]
  refine vc_gen ?_
  intro w1 hw1
  have hm1 : Mod (fun _ => False) w w1 := by rw [hw1]; exact (Mod.refl _ _).alloc _
  have p1 : w1.heap[w.heap.size]? = some (.cells #[.string m.queue, .int .u64 m.id, .int .u32 m.tries, .int .u64 m.expiry, .string m.body] 49 (0, 0)) := by rw [hw1]; simp only [if_true, get_alloc]
  clear hw1
  have lt1 := lt_of_get p1
  refine vc_loop (fun mm ρ ds u => ∃ i acc v' dn, i ≤ l.length ∧ mm = l.length - i ∧ ds = [] ∧ ρ 3 = .pointer (some ⟨w.heap.size, 0, none⟩) ∧ ρ 5 = v' ∧ ρ 6 = .bool dn ∧ ρ 9 = .slice a l.length cp ∧ ρ 10 = .int .i64 l.length ∧ ρ 11 = .int .i64 i ∧
    Mod (fun _ => False) w1 u ∧ u.ownsRow w1.heap.size 49 5 v' acc.length (acc.flatMap Ms.cells) ∧ acc.length ≤ i + (if dn = true then 1 else 0) ∧ insR m l = acc ++ (if dn = true then l.drop i else insR m (l.drop i))) (l.length - 0) ?_ ?_
  · exact ⟨0, [], _, false, Nat.zero_le _, rfl, rfl, by simp only [upd_same, upd_other, ne_eq, not_false_eq_true, Nat.reduceEqDiff], by simp only [upd_same, upd_other, ne_eq, not_false_eq_true, Nat.reduceEqDiff], by simp only [upd_same, upd_other, ne_eq, not_false_eq_true, Nat.reduceEqDiff], by simp only [upd_same, upd_other, ne_eq, not_false_eq_true, Nat.reduceEqDiff], by simp only [upd_same, upd_other, ne_eq, not_false_eq_true, Nat.reduceEqDiff], by simp only [upd_same]; rfl, Mod.refl _ _, World.ownsRow_nil _ _ _ 5, by simp, by simp⟩
  · rintro mm ρ ds u ⟨i, acc, v', dn, hi, rfl, rfl, h3, h5, h6, h9, h10, h11, hmu, hown, hacc, hk⟩
    have pu := hmu.keep p1 id
    have hms := hmu.size
    have hob : ∀ k, v'.ownBlock = some k → w1.heap.size ≤ k ∧ k < u.heap.size := fun k hk => World.ownsRow.lt hown k hk
    by_cases c1 : i < l.length
    · have d1 : (i : Int) < ((l.length : Nat) : Int) := by omega
      obtain ⟨x, hxi⟩ : ∃ x, l[i]? = some x := ⟨l[i], List.getElem?_eq_getElem c1⟩
      obtain ⟨b, o, c, cur, t, f, he, hb, hsz, hex⟩ := hat i x hxi
      have hbu := hmu.keep (hm1.keep hb id) id
      rw [Nat.add_assoc] at hsz hex
      have ha : a = some ⟨b, o, none⟩ := by simpa using congrArg (fun x => match x with | .slice a _ _ => a | _ => none) he
      subst ha
      have hdrop : l.drop i = x :: l.drop (i + 1) := List.drop_eq_getElem?_toList_append.trans (by rw [hxi]; rfl)
      have hi0 : (0 : Int) ≤ (i : Int) ∧ (i : Int) < ((l.length : Nat) : Int) := by omega
      have hw1 : IntKind.i64.wrap ((i : Int) + 1) = ((i + 1 : Nat) : Int) := by rw [wrap_i64 _ (by omega)]; omega
      rw [hdrop, insR_cons] at hk
      obtain ⟨u1, hu1⟩ : ∃ u1, u1 = Vc.set (u.alloc (.cells #[.string ⟨#[]⟩, .int .u64 0, .int .u32 0, .int .u64 0, .string ⟨#[]⟩] 49)) u.heap.size (.cells #[.string x.queue, .int .u64 x.id, .int .u32 x.tries, .int .u64 x.expiry, .string x.body] 49) := ⟨_, rfl⟩
      have hmu1 : Mod (fun _ => False) u u1 := by rw [hu1]; exact ((Mod.refl _ _).alloc _).set (.inl (Nat.le_refl _))
      have px1 : u1.heap[u.heap.size]? = some (.cells #[.string x.queue, .int .u64 x.id, .int .u32 x.tries, .int .u64 x.expiry, .string x.body] 49 (0, 0)) := by rw [hu1]; exact get_set_same _ _ _ (by simp only [size_alloc]; omega)
      have hz1 : u.heap.size + 1 = u1.heap.size := by rw [hu1]; simp only [size_set, size_alloc]
      have hne : ¬ w.heap.size = u.heap.size := by omega
      -- the rest of the loop's body, behind the message that is put ahead
      have tail : ∀ (u2 : World) (v2 : Value) (acc2 : List Ms), Mod (fun _ => False) w1 u2 → u2.ownsRow w1.heap.size 49 5 v2 acc2.length (acc2.flatMap Ms.cells) → acc2.length ≤ i + 1 →
          ∃ v5 w5, (Builtin.append_ #[50, 50] 50 #[v2, .slice (some ⟨u2.heap.size, 0, none⟩) 1 1]).run Proofs.Tryz.prog (u2.alloc (.cells #[.string x.queue, .int .u64 x.id, .int .u32 x.tries, .int .u64 x.expiry, .string x.body] 49)) = .ok v5 w5 ∧
            Mod (fun _ => False) w1 w5 ∧ w5.ownsRow w1.heap.size 49 5 v5 (acc2 ++ [x]).length ((acc2 ++ [x]).flatMap Ms.cells) ∧ (acc2 ++ [x]).length ≤ i + 1 + 1 := by
        intro u2 v2 acc2 hm2 ho2 ha2
        obtain ⟨v5, w5, hr5, ho5, hm5, hb5⟩ := append_bx 50 (by kernel_rfl) w1.heap.size v2 acc2 x u2 ho2 hm2.size (by omega) 50
        refine ⟨v5, w5, hr5, hm2.then hm5 (fun k hk x => by have := World.ownsRow.lt ho2 k x; omega), ho5, by simp; omega⟩
      cases dn with
      | true =>
        rw [if_pos rfl] at hk
        simp only [vc_skip, vc_seq, vc_cond, vc_block, vc_ops, vcOps_nil, vcOps_cons, vcOps_gate, gateK_false, gate_true, goL_apply, thenQ_normal, condP_true, condP_false, upd_same, upd_other, updO_some, updO_none, ev_tmp, ev_const, insVc, pickK, loadV_some, loadNK, loadNO_cells, storeNK, storeNO_cells, setMany, iopK, iopV, notK, iaddrK, fillL, buildSK, isPlain, Value.cells, ne_eq, not_false_eq_true, Nat.reduceEqDiff, Nat.reduceAdd, Nat.reduceLeDiff, reduceCtorEq, Bool.not_true, List.size_toArray, List.length_cons, List.length_nil, List.zipIdx_cons, List.zipIdx_nil, List.foldl_cons, List.foldl_nil, List.setIfInBounds_toArray, List.set_cons_zero, List.set_cons_succ, List.toList_toArray, true_and, or_false, and_self, if_true, if_false, Bool.false_eq_true, Nat.zero_add, decide_true, Bool.and_true, Int.toNat_natCast, List.extract_toArray, List.extract_eq_take_drop, List.drop_zero, List.take_zero, List.take_succ_cons, Nat.sub_zero, List.all_toArray', List.all_cons, List.all_nil, size_set, size_alloc, get_set_same, Nat.lt_add_one, get_alloc, size_alloc, size_set, Nat.add_assoc, Nat.reduceAdd, Nat.reduceEqDiff, h9, h10, h11, d1, hi0, hbu, hsz, hex, Ms.cells, h6, h5]
        rw [← hu1, hz1]
        obtain ⟨v5, w5, hr5, hm5, ho5, hl5⟩ := tail u1 v' acc (hmu.trans hmu1) (own_keep' hown hmu1 (fun _ _ x => x)) (by simpa using hacc)
        refine rawK_append rfl rfl rfl (by simp only [upd_same, upd_other, ev_tmp, ne_eq, not_false_eq_true, Nat.reduceEqDiff]; exact hr5) ?_
        simp only [vc_ops, vcOps_nil, vcOps_cons, goL_apply, thenQ_normal, blockQ_normal, upd_same, upd_other, updO_some, ev_tmp, ev_const, insVc, loadV_some, iopK, iopV, ne_eq, not_false_eq_true, Nat.reduceEqDiff, reduceCtorEq, true_and, or_false, h9, h10, h11, h6, h3, hw1]
        refine ⟨l.length - (i + 1), by omega, i + 1, acc ++ [x], v5, true, by omega, rfl, rfl, rfl, rfl, hm5, ho5, by simp at hacc ⊢; omega, ?_⟩
        rw [hk]; simp
      | false =>
        rw [if_neg (by decide)] at hk
        simp only [vc_skip, vc_seq, vc_cond, vc_block, vc_ops, vcOps_nil, vcOps_cons, vcOps_gate, gateK_true, gate_true, goL_apply, thenQ_normal, condP_true, upd_same, upd_other, updO_some, updO_none, ev_tmp, insVc, loadV_some, loadNK, loadNO_cells, storeNK, storeNO_cells, setMany, iopK, iopV, notK, iaddrK, isPlain, Value.cells, ne_eq, not_false_eq_true, Nat.reduceEqDiff, Nat.reduceAdd, Nat.reduceLeDiff, reduceCtorEq, Bool.not_false, List.map_cons, List.map_nil, List.size_toArray, List.length_cons, List.length_nil, List.setIfInBounds_toArray, List.set_cons_zero, List.set_cons_succ, true_and, and_true, or_false, and_self, if_true, if_false, Nat.zero_add, decide_true, Bool.and_true, Int.toNat_natCast, List.extract_toArray, List.extract_eq_take_drop, List.drop_zero, List.take_zero, List.take_succ_cons, Nat.sub_zero, List.all_toArray', List.all_cons, List.all_nil, size_alloc, get_set_same, Nat.lt_add_one, get_alloc, get_set, size_alloc, Nat.add_assoc, Nat.reduceAdd, Nat.reduceEqDiff, h9, h10, h11, d1, hi0, hbu, hsz, hex, Ms.cells, h6, h3, pu, hne]
        rw [← hu1]
        refine ahead_c m x u1 _ ?_
        intro u2 hm2
        have hm12 := hmu1.trans hm2
        have px2 := hm2.keep px1 id
        have pu2 := hm12.keep pu id
        have hown2 := own_keep' hown hm12 (fun _ _ x => x)
        have hz2 := hm2.size
        cases hah : aheadR m x with
        | false =>
          rw [hah] at hk
          rw [if_neg (by decide)] at hk
          simp only [vc_skip, vc_cond, vc_ops, vcOps_nil, vcOps_cons, goL_apply, thenQ_normal, condP_false, upd_same, upd_other, updO_some, ev_tmp, ev_const, insVc, pickK, loadNK, loadNO_cells, fillL, buildSK, Value.cells, ne_eq, not_false_eq_true, Nat.reduceEqDiff, Nat.reduceAdd, Nat.reduceLeDiff, List.size_toArray, List.length_cons, List.length_nil, List.zipIdx_cons, List.zipIdx_nil, List.foldl_cons, List.foldl_nil, List.setIfInBounds_toArray, List.set_cons_zero, List.set_cons_succ, List.toList_toArray, true_and, and_self, if_true, Nat.zero_add, List.extract_toArray, List.extract_eq_take_drop, List.drop_zero, List.take_zero, List.take_succ_cons, Nat.sub_zero, px2, h5]
          obtain ⟨v5, w5, hr5, hm5, ho5, hl5⟩ := tail u2 v' acc (hmu.trans hm12) hown2 (by simp at hacc; omega)
          refine rawK_append rfl rfl rfl (by simp only [upd_same, upd_other, ev_tmp, ne_eq, not_false_eq_true, Nat.reduceEqDiff]; exact hr5) ?_
          simp only [vc_ops, vcOps_nil, vcOps_cons, goL_apply, thenQ_normal, blockQ_normal, upd_same, upd_other, updO_some, ev_tmp, ev_const, insVc, loadV_some, iopK, iopV, ne_eq, not_false_eq_true, Nat.reduceEqDiff, reduceCtorEq, true_and, or_false, h9, h10, h11, h6, h3, hw1]
          refine ⟨l.length - (i + 1), by omega, i + 1, acc ++ [x], v5, false, by omega, rfl, rfl, rfl, rfl, hm5, ho5, by simp at hacc ⊢; omega, ?_⟩
          rw [hk]; simp
        | true =>
          rw [hah] at hk
          rw [if_pos rfl] at hk
          simp only [vc_seq, vc_cond, vc_ops, vcOps_nil, vcOps_cons, goL_apply, thenQ_normal, condP_true, upd_same, upd_other, updO_some, ev_tmp, ev_const, insVc, pickK, loadNK, loadNO_cells, fillL, buildSK, Value.cells, ne_eq, not_false_eq_true, Nat.reduceEqDiff, Nat.reduceAdd, Nat.reduceLeDiff, List.size_toArray, List.length_cons, List.length_nil, List.zipIdx_cons, List.zipIdx_nil, List.foldl_cons, List.foldl_nil, List.setIfInBounds_toArray, List.set_cons_zero, List.set_cons_succ, List.toList_toArray, true_and, and_self, if_true, Nat.zero_add, List.extract_toArray, List.extract_eq_take_drop, List.drop_zero, List.take_zero, List.take_succ_cons, Nat.sub_zero, pu2, h3, h5]
          obtain ⟨v3, w3, hr3, ho3, hm3, hb3⟩ := append_bx 50 (by kernel_rfl) w1.heap.size v' acc m u2 hown2 (by omega) (by simp at hacc; omega) 50
          refine rawK_append rfl rfl rfl (by simp only [upd_same, upd_other, ev_tmp, ne_eq, not_false_eq_true, Nat.reduceEqDiff]; exact hr3) ?_
          have px3 := hm3.keep px2 (fun k => by have := hob _ k; omega)
          have hm03 : Mod (fun _ => False) w1 w3 := (hmu.trans hm12).then hm3 (fun k hk x => by have := hob k x; omega)
          simp only [vc_ops, vcOps_nil, vcOps_cons, goL_apply, thenQ_normal, upd_same, upd_other, updO_some, ev_tmp, ev_const, insVc, loadNK, loadNO_cells, fillL, buildSK, Value.cells, ne_eq, not_false_eq_true, Nat.reduceEqDiff, Nat.reduceAdd, Nat.reduceLeDiff, List.size_toArray, List.length_cons, List.length_nil, List.zipIdx_cons, List.zipIdx_nil, List.foldl_cons, List.foldl_nil, List.setIfInBounds_toArray, List.set_cons_zero, List.set_cons_succ, List.toList_toArray, true_and, and_self, if_true, Nat.zero_add, List.extract_toArray, List.extract_eq_take_drop, List.drop_zero, List.take_zero, List.take_succ_cons, Nat.sub_zero, px3]
          obtain ⟨v5, w5, hr5, hm5, ho5, hb5⟩ := append_bx 50 (by kernel_rfl) w1.heap.size v3 (acc ++ [m]) x w3 ho3 hm03.size (by simp at hacc ⊢; omega) 50
          refine rawK_append rfl rfl rfl (by simp only [upd_same, upd_other, ev_tmp, ne_eq, not_false_eq_true, Nat.reduceEqDiff]; exact hr5) ?_
          simp only [vc_ops, vcOps_nil, vcOps_cons, goL_apply, thenQ_normal, blockQ_normal, upd_same, upd_other, updO_some, ev_tmp, ev_const, insVc, loadV_some, iopK, iopV, ne_eq, not_false_eq_true, Nat.reduceEqDiff, reduceCtorEq, true_and, or_false, h9, h10, h11, h3, hw1]
          refine ⟨l.length - (i + 1), by omega, i + 1, acc ++ [m] ++ [x], v5, true, by omega, rfl, rfl, rfl, rfl, hm03.then ho5 (fun k hk x => by have := World.ownsRow.lt ho3 k x; omega), hm5, by simp at hacc ⊢; omega, ?_⟩
          rw [hk]; simp
    · have d1 : ¬ (i : Int) < ((l.length : Nat) : Int) := by omega
      have hi2 : i = l.length := by omega
      rw [hi2, List.drop_length] at hk
      cases dn with
      | true =>
        simp only [vc_skip, vc_seq, vc_cond, vc_exit, vc_ret, vc_ops, vcOps_nil, vcOps_cons, goL_apply, thenQ_normal, thenQ_exit, blockQ_same, condP_false, upd_same, upd_other, updO_some, ev_tmp, endQ_ret, endK, resK, packed, insVc, loadV_some, iopK, iopV, notK, ne_eq, not_false_eq_true, Nat.reduceEqDiff, reduceCtorEq, Bool.not_true, List.nil_append, true_and, or_false, decide_false, Nat.reduceEqDiff, h10, h11, d1, h6, h5]
        rw [if_pos rfl, List.append_nil] at hk
        refine h u v' (hm1.trans hmu) ?_
        rw [hk]
        exact IsBx.own hown
      | false =>
        simp only [vc_seq, vc_cond, vc_exit, vc_ops, vcOps_nil, vcOps_cons, goL_apply, thenQ_normal, thenQ_exit, blockQ_same, condP_true, condP_false, upd_same, upd_other, updO_some, ev_tmp, insVc, loadV_some, loadNK, loadNO_cells, iopK, iopV, notK, fillL, buildSK, Value.cells, ne_eq, not_false_eq_true, Nat.reduceEqDiff, Nat.reduceAdd, Nat.reduceLeDiff, reduceCtorEq, Bool.not_false, List.size_toArray, List.length_cons, List.length_nil, List.zipIdx_cons, List.zipIdx_nil, List.foldl_cons, List.foldl_nil, List.setIfInBounds_toArray, List.set_cons_zero, List.set_cons_succ, List.toList_toArray, true_and, or_false, and_self, if_true, Nat.zero_add, decide_false, List.extract_toArray, List.extract_eq_take_drop, List.drop_zero, List.take_zero, List.take_succ_cons, Nat.sub_zero, Nat.reduceAdd, Nat.reduceEqDiff, h10, h11, d1, h6, h5, h3, pu]
        obtain ⟨v3, w3, hr3, ho3, hm3, hb3⟩ := append_bx 50 (by kernel_rfl) w1.heap.size v' acc m u hown (by omega) (by simp at hacc; omega) 50
        refine rawK_append rfl rfl rfl (by simp only [upd_same, upd_other, ev_tmp, ne_eq, not_false_eq_true, Nat.reduceEqDiff]; exact hr3) ?_
        simp only [vc_seq, vc_ret, vc_ops, vcOps_nil, vcOps_cons, goL_apply, thenQ_normal, upd_same, updO_some, ev_tmp, endQ_ret, endK, resK, packed, insVc, List.nil_append]
        rw [if_neg (by decide)] at hk
        refine h w3 v3 (hm1.trans (hmu.then hm3 (fun k hk x => by have := hob k x; omega))) ?_
        rw [hk]
        exact IsBx.own ho3

end Go.Oct

namespace Go.Oct
open Go Go.Vc Go.VrA Go.VrB Go.VrC
set_option maxRecDepth 100000

/-! ### the reference's Box: Add, Due -/

def addR (m : Ms) (l : List Ms) : List Ms × Int :=
  if (keysR m).2.2 ≠ 0 then (l, (keysR m).2.2) else if findL m.queue m.id l 0 ≥ 0 then (l, 22) else (insR m l, 0)

theorem radd_c (l : List Ms) (m : Ms) (v : Value) (w : World) (K : Value → World → Prop) (hv : IsBx w v l) (hl : l.length < 2 ^ 19) (hs : m.queue.size < 4294967281) (hi : m.id < 2 ^ 64) (he : m.expiry < 2 ^ 64)
    (h : ∀ w' v', Mod (fun _ => False) w w' → IsBx w' v' (addR m l).1 → K (.tuple #[v', .int .i64 (addR m l).2]) w') : Ok Proofs.Tryz.prog 21 #[v, m.val] w K := by
  refine F21.enter (args := [v, m.val]) (by simp) ?_
  unfold c21 r21
  simp only [vc_seq, vc_ops, vcOps_nil, vcOps_cons, goL_apply, thenQ_normal, upd_same, upd_other, updO_some, ev_tmp, ev_const, initE_at, insVc, loadNK, loadNO_cells, Value.cells, ne_eq, not_false_eq_true, Nat.reduceEqDiff, Nat.reduceAdd, Nat.reduceLeDiff, Option.getD_some, List.map_cons, List.map_nil, List.getElem?_cons_zero, List.getElem?_cons_succ, List.size_toArray, List.length_cons, List.length_nil, true_and, Nat.zero_add, List.extract_toArray, List.extract_eq_take_drop, List.drop_zero, List.take_zero, List.take_succ_cons, Nat.sub_zero, get_alloc_new, Ms.val, Ms.cells]
  refine callK_gen ?_
  intro w1 hw1
  have hm1 : Mod (fun _ => False) w w1 := by rw [hw1]; exact (Mod.refl _ _).alloc _
  have p1 : w1.heap[w.heap.size]? = some (.cells #[.string m.queue, .int .u64 m.id, .int .u32 m.tries, .int .u64 m.expiry, .string m.body] 49 (0, 0)) := by rw [hw1]; exact get_alloc_new _ _
  clear hw1
  refine rkeys_c m w1 _ hs hi he ?_
  intro w2 hm2
  have p2 := hm2.keep p1 id
  unfold addR at h
  by_cases hk : (keysR m).2.2 = 0
  · have b1 : ((keysR m).2.2 != 0) = false := by simpa using hk
    rw [if_neg (by simpa using hk)] at h
    simp only [vc_skip, vc_seq, vc_cond, vc_ops, vcOps_nil, vcOps_cons, goL_apply, thenQ_normal, condP_false, upd_same, upd_other, updO_some, ev_tmp, ev_const, initE_at, insVc, load1K, loadO_cells, loadV_some, iopK, iopV, faddrK, ne_eq, not_false_eq_true, Nat.reduceEqDiff, reduceCtorEq, Option.getD_some, List.map_cons, List.map_nil, List.getElem?_cons_zero, List.getElem?_cons_succ, List.getElem?_toArray, true_and, or_false, Nat.zero_add, Nat.add_zero, b1, p2]
    refine rfind_c l m.queue m.id v w2 _ (hv.keep (hm1.trans hm2)) (by omega) ?_
    intro w3 hm3
    have p3 := hm3.keep p2 id
    have hm13 := (hm1.trans hm2).trans hm3
    by_cases hf : findL m.queue m.id l 0 ≥ 0
    · rw [if_pos hf] at h
      simp only [vc_seq, vc_cond, vc_ret, vc_ops, vcOps_nil, vcOps_cons, goL_apply, thenQ_normal, thenQ_ret, condP_true, upd_same, upd_other, updO_some, ev_tmp, ev_const, endQ_ret, endK, resK, packed, initE_at, insVc, loadV_some, iopK, iopV, ne_eq, not_false_eq_true, Nat.reduceEqDiff, reduceCtorEq, Option.getD_some, List.getElem?_cons_zero, List.nil_append, List.cons_append, true_and, or_false, decide_true, hf]
      exact h w3 v hm13 (hv.keep hm13)
    · rw [if_neg hf] at h
      simp only [vc_skip, vc_seq, vc_cond, vc_ops, vcOps_nil, vcOps_cons, goL_apply, thenQ_normal, condP_false, upd_same, upd_other, updO_some, ev_tmp, ev_const, initE_at, insVc, loadV_some, loadNK, loadNO_cells, iopK, iopV, ne_eq, not_false_eq_true, Nat.reduceEqDiff, Nat.reduceAdd, Nat.reduceLeDiff, reduceCtorEq, Option.getD_some, List.map_cons, List.map_nil, List.getElem?_cons_zero, List.size_toArray, List.length_cons, List.length_nil, true_and, or_false, Nat.zero_add, decide_false, List.extract_toArray, List.extract_eq_take_drop, List.drop_zero, List.take_zero, List.take_succ_cons, Nat.sub_zero, hf, p3]
      refine rwith_c l m v w3 _ (hv.keep hm13) hl ?_
      intro w4 v4 hm4 hv4
      simp only [vc_ret, vcOps_nil, vcOps_cons, goL_apply, thenQ_normal, upd_same, upd_other, updO_some, ev_tmp, ev_const, endQ_ret, endK, resK, packed, insVc, ne_eq, not_false_eq_true, Nat.reduceEqDiff, List.nil_append, List.cons_append]
      exact h w4 v4 (hm13.trans hm4) hv4
  · have b1 : ((keysR m).2.2 != 0) = true := by simpa using hk
    rw [if_pos (by simpa using hk)] at h
    simp only [vc_seq, vc_cond, vc_ret, vc_ops, vcOps_nil, vcOps_cons, goL_apply, thenQ_normal, thenQ_ret, condP_true, upd_same, upd_other, updO_some, ev_tmp, ev_const, endQ_ret, endK, resK, packed, initE_at, insVc, loadV_some, iopK, iopV, ne_eq, not_false_eq_true, Nat.reduceEqDiff, reduceCtorEq, Option.getD_some, List.getElem?_cons_zero, List.nil_append, List.cons_append, true_and, or_false, b1]
    exact h w2 v (hm1.trans hm2) (hv.keep (hm1.trans hm2))

def insD (m : Ms) : List Ms → List Ms
  | [] => [m]
  | x :: r => if m.expiry < x.expiry ∨ (m.expiry = x.expiry ∧ aheadR m x = true) then m :: x :: r else x :: insD m r
theorem insD_cons (m x : Ms) (r : List Ms) : insD m (x :: r) = if m.expiry < x.expiry ∨ (m.expiry = x.expiry ∧ aheadR m x = true) then m :: x :: r else x :: insD m r := rfl
theorem insD_length (m : Ms) : ∀ l, (insD m l).length = l.length + 1
  | [] => rfl
  | x :: r => by
    rw [insD_cons]
    split
    · simp
    · simp [insD_length m r]
def dueStep (now : Nat) (out : List Ms) (m : Ms) : List Ms := if m.expiry = 0 ∨ now < m.expiry then out else insD m out
def dueR (now : Nat) (l : List Ms) : List Ms := l.foldl (dueStep now) []

theorem rdue_c (l : List Ms) (now : Nat) (v : Value) (w : World) (K : Value → World → Prop) (hv : IsBx w v l) (hl : l.length < 2 ^ 19)
    (h : ∀ w' v', Mod (fun _ => False) w w' → w'.ownsRow w.heap.size 49 5 v' (dueR now l).length ((dueR now l).flatMap Ms.cells) → K v' w') : Ok Proofs.Tryz.prog 26 #[v, .int .u64 now] w K := by
  obtain ⟨⟨a, cp, rfl⟩, hat⟩ := hv
  refine F26.enter (args := [.slice a l.length cp, .int .u64 now]) (by simp) ?_
  unfold c26 r26
  simp only [vc_seq, vc_block, vc_ops, vcOps_nil, vcOps_cons, goL_apply, thenQ_normal, upd_same, upd_other, updO_some, ev_tmp, ev_const, initE_at, insVc, lenLK, ne_eq, not_false_eq_true, reduceCtorEq, Option.getD_some, List.getElem?_cons_zero]
  refine vc_loop (fun mm ρ ds u => ∃ i acc v', i ≤ l.length ∧ mm = l.length - i ∧ ds = [] ∧ ρ 1 = .int .u64 now ∧ ρ 5 = v' ∧ ρ 12 = .slice a l.length cp ∧ ρ 13 = .int .i64 l.length ∧ ρ 14 = .int .i64 i ∧
    Mod (fun _ => False) w u ∧ u.ownsRow w.heap.size 49 5 v' acc.length (acc.flatMap Ms.cells) ∧ acc.length ≤ i ∧ acc = (l.take i).foldl (dueStep now) []) (l.length - 0) ?_ ?_
  · exact ⟨0, [], _, Nat.zero_le _, rfl, rfl, by simp only [upd_other, initE_at, ne_eq, not_false_eq_true, Nat.reduceEqDiff, Option.getD_some, List.getElem?_cons_zero, List.getElem?_cons_succ], by simp only [upd_same, upd_other, ne_eq, not_false_eq_true, Nat.reduceEqDiff], by simp only [upd_same, upd_other, ne_eq, not_false_eq_true, Nat.reduceEqDiff], by simp only [upd_same, upd_other, ne_eq, not_false_eq_true, Nat.reduceEqDiff], by simp only [upd_same]; rfl, Mod.refl _ _, World.ownsRow_nil _ _ _ 5, by simp, by simp⟩
  · rintro mm ρ ds u ⟨i, acc, v', hi, rfl, rfl, h1, h5, h12, h13, h14, hmu, hown, hacc, hk⟩
    have hob : ∀ k, v'.ownBlock = some k → w.heap.size ≤ k ∧ k < u.heap.size := fun k hk => World.ownsRow.lt hown k hk
    by_cases c1 : i < l.length
    · have d1 : (i : Int) < ((l.length : Nat) : Int) := by omega
      obtain ⟨m, hmi⟩ : ∃ m, l[i]? = some m := ⟨l[i], List.getElem?_eq_getElem c1⟩
      obtain ⟨b, o, c, cur, t, f, he, hb, hsz, hex⟩ := hat i m hmi
      have hbu := hmu.keep hb id
      rw [Nat.add_assoc] at hsz hex
      have ha : a = some ⟨b, o, none⟩ := by simpa using congrArg (fun x => match x with | .slice a _ _ => a | _ => none) he
      subst ha
      have hi0 : (0 : Int) ≤ (i : Int) ∧ (i : Int) < ((l.length : Nat) : Int) := by omega
      have hw1 : IntKind.i64.wrap ((i : Int) + 1) = ((i + 1 : Nat) : Int) := by rw [wrap_i64 _ (by omega)]; omega
      have htk : (l.take (i + 1)).foldl (dueStep now) [] = dueStep now acc m := by rw [List.take_add_one, hmi, Option.toList_some, List.foldl_append, ← hk]; rfl
      obtain ⟨u1, hu1⟩ : ∃ u1, u1 = Vc.set (u.alloc (.cells #[.string ⟨#[]⟩, .int .u64 0, .int .u32 0, .int .u64 0, .string ⟨#[]⟩] 49)) u.heap.size (.cells #[.string m.queue, .int .u64 m.id, .int .u32 m.tries, .int .u64 m.expiry, .string m.body] 49) := ⟨_, rfl⟩
      have hmu1 : Mod (fun _ => False) u u1 := by rw [hu1]; exact ((Mod.refl _ _).alloc _).set (.inl (Nat.le_refl _))
      have px1 : u1.heap[u.heap.size]? = some (.cells #[.string m.queue, .int .u64 m.id, .int .u32 m.tries, .int .u64 m.expiry, .string m.body] 49 (0, 0)) := by rw [hu1]; exact get_set_same _ _ _ (by simp only [size_alloc]; omega)
      have hown1 := own_keep' hown hmu1 (fun _ _ x => x)
      have hmw1 := hmu.trans hmu1
      by_cases h0 : m.expiry = 0
      · have b0 : ((m.expiry : Int) == 0) = true := by simp [h0]
        simp only [vc_skip, vc_seq, vc_cond, vc_block, vc_exit, vc_ops, vcOps_nil, vcOps_cons, vcOps_gate, gateK_false, gate_false, goL_apply, thenQ_normal, thenQ_exit, blockQ_same, condP_true, upd_same, upd_other, updO_some, updO_none, ev_tmp, ev_const, insVc, pickK, load1K, loadO_cells, loadV_some, loadNK, loadNO_cells, storeNK, storeNO_cells, setMany, iopK, iopV, faddrK, iaddrK, isPlain, Value.cells, ne_eq, not_false_eq_true, Nat.reduceEqDiff, Nat.reduceAdd, Nat.reduceLeDiff, reduceCtorEq, Bool.not_true, List.getElem?_cons_zero, List.getElem?_cons_succ, List.getElem?_toArray, List.size_toArray, List.length_cons, List.length_nil, List.setIfInBounds_toArray, List.set_cons_zero, List.set_cons_succ, true_and, or_false, and_self, if_true, Nat.zero_add, decide_true, Bool.and_true, Int.toNat_natCast, List.all_toArray', List.all_cons, List.all_nil, size_alloc, get_set_same, Nat.lt_add_one, get_alloc, size_alloc, Nat.add_assoc, Nat.reduceAdd, Nat.reduceEqDiff, h12, h13, h14, d1, hi0, hbu, hsz, hex, Ms.cells, b0, hw1]
        rw [← hu1]
        refine ⟨l.length - (i + 1), by omega, i + 1, acc, v', by omega, rfl, h1, h5, rfl, hmw1, hown1, by omega, ?_⟩
        rw [htk]; unfold dueStep; rw [if_pos (.inl h0)]
      · have b0 : ((m.expiry : Int) == 0) = false := by rw [beq_eq_false_iff_ne]; omega
        by_cases h2 : now < m.expiry
        · have b2 : ((m.expiry : Int) > (now : Int)) := by omega
          simp only [vc_skip, vc_seq, vc_cond, vc_block, vc_exit, vc_ops, vcOps_nil, vcOps_cons, vcOps_gate, gateK_true, gate_false, goL_apply, thenQ_normal, thenQ_exit, blockQ_same, condP_true, upd_same, upd_other, updO_some, updO_none, ev_tmp, ev_const, insVc, pickK, load1K, loadO_cells, loadV_some, loadNK, loadNO_cells, storeNK, storeNO_cells, setMany, iopK, iopV, faddrK, iaddrK, isPlain, Value.cells, ne_eq, not_false_eq_true, Nat.reduceEqDiff, Nat.reduceAdd, Nat.reduceLeDiff, reduceCtorEq, Bool.not_false, List.getElem?_cons_zero, List.getElem?_cons_succ, List.getElem?_toArray, List.size_toArray, List.length_cons, List.length_nil, List.setIfInBounds_toArray, List.set_cons_zero, List.set_cons_succ, true_and, or_false, and_self, if_true, if_false, Bool.false_eq_true, Nat.zero_add, decide_true, Bool.and_true, Int.toNat_natCast, List.all_toArray', List.all_cons, List.all_nil, size_alloc, get_set_same, Nat.lt_add_one, get_alloc, size_alloc, Nat.add_assoc, Nat.reduceAdd, Nat.reduceEqDiff, h12, h13, h14, d1, hi0, hbu, hsz, hex, Ms.cells, b0, hw1, h1, b2]
          rw [← hu1]
          refine ⟨l.length - (i + 1), by omega, i + 1, acc, v', by omega, rfl, h5, rfl, hmw1, hown1, by omega, ?_⟩
          rw [htk]; unfold dueStep; rw [if_pos (.inr h2)]
        · have b2 : ¬ ((m.expiry : Int) > (now : Int)) := by omega
          simp only [vc_skip, vc_seq, vc_cond, vc_block, vc_ops, vcOps_nil, vcOps_cons, vcOps_gate, gateK_true, gate_false, goL_apply, thenQ_normal, condP_true, condP_false, upd_same, upd_other, updO_some, updO_none, ev_tmp, ev_const, insVc, pickK, load1K, loadO_cells, loadV_some, loadNK, loadNO_cells, storeNK, storeNO_cells, setMany, iopK, iopV, faddrK, iaddrK, lenLK, isPlain, Value.cells, ne_eq, not_false_eq_true, Nat.reduceEqDiff, Nat.reduceAdd, Nat.reduceLeDiff, reduceCtorEq, Bool.not_false, List.getElem?_cons_zero, List.getElem?_cons_succ, List.getElem?_toArray, List.size_toArray, List.length_cons, List.length_nil, List.setIfInBounds_toArray, List.set_cons_zero, List.set_cons_succ, true_and, or_false, and_self, if_true, if_false, Bool.false_eq_true, Nat.zero_add, decide_true, decide_false, Bool.and_true, Int.toNat_natCast, List.all_toArray', List.all_cons, List.all_nil, size_alloc, get_set_same, Nat.lt_add_one, get_alloc, size_alloc, Nat.add_assoc, Nat.reduceAdd, Nat.reduceEqDiff, h12, h13, h14, d1, hi0, hbu, hsz, hex, Ms.cells, b0, h1, h5, b2]
          rw [← hu1]
          obtain ⟨⟨a', c', rfl⟩, hat'⟩ := IsBx.own hown1
          have hdst : dueStep now acc m = insD m acc := by unfold dueStep; rw [if_neg (by rintro (x | x); exact h0 x; exact h2 x)]
          rw [hdst] at htk
          have hz1 := hmu1.size
          have lx1 := lt_of_get px1
          simp only []
          refine vc_loop (fun mm ρ2 ds2 u2 => ∃ j nx v2 dn, j ≤ acc.length ∧ mm = acc.length - j ∧ ds2 = [] ∧ ρ2 1 = .int .u64 now ∧ ρ2 7 = .pointer (some ⟨u.heap.size, 0, none⟩) ∧ ρ2 8 = v2 ∧ ρ2 9 = .bool dn ∧ ρ2 12 = .slice (some ⟨b, o, none⟩) l.length cp ∧ ρ2 13 = .int .i64 l.length ∧ ρ2 14 = .int .i64 i ∧ ρ2 27 = .slice a' acc.length c' ∧ ρ2 28 = .int .i64 acc.length ∧ ρ2 29 = .int .i64 j ∧
            Mod (fun _ => False) u1 u2 ∧ u2.ownsRow u1.heap.size 49 5 v2 nx.length (nx.flatMap Ms.cells) ∧ nx.length ≤ j + (if dn = true then 1 else 0) ∧ insD m acc = nx ++ (if dn = true then acc.drop j else insD m (acc.drop j))) (acc.length - 0) ?_ ?_
          · exact ⟨0, [], _, false, Nat.zero_le _, rfl, rfl, by simp only [upd_other, ne_eq, not_false_eq_true, Nat.reduceEqDiff, h1], by simp only [upd_same, upd_other, ne_eq, not_false_eq_true, Nat.reduceEqDiff], by simp only [upd_same, upd_other, ne_eq, not_false_eq_true, Nat.reduceEqDiff], by simp only [upd_same, upd_other, ne_eq, not_false_eq_true, Nat.reduceEqDiff], by simp only [upd_other, ne_eq, not_false_eq_true, Nat.reduceEqDiff, h12], by simp only [upd_other, ne_eq, not_false_eq_true, Nat.reduceEqDiff, h13], by simp only [upd_other, ne_eq, not_false_eq_true, Nat.reduceEqDiff, h14], by simp only [upd_same, upd_other, ne_eq, not_false_eq_true, Nat.reduceEqDiff], by simp only [upd_same, upd_other, ne_eq, not_false_eq_true, Nat.reduceEqDiff], by simp only [upd_same]; rfl, Mod.refl _ _, World.ownsRow_nil _ _ _ 5, by simp, by simp⟩
          · rintro mm ρ2 ds2 u2 ⟨j, nx, v2, dn, hj, rfl, rfl, k1, k7, k8, k9, k12, k13, k14, k27, k28, k29, hmu2, hown2, hnx, hkk⟩
            have px2 := hmu2.keep px1 id
            have hz2 := hmu2.size
            have hob2 : ∀ k, v2.ownBlock = some k → u1.heap.size ≤ k ∧ k < u2.heap.size := fun k hk => World.ownsRow.lt hown2 k hk
            have hfin : ∀ (v3 : Value) (w3 : World), Mod (fun _ => False) u1 w3 → w3.ownsRow u1.heap.size 49 5 v3 (insD m acc).length ((insD m acc).flatMap Ms.cells) → Mod (fun _ => False) w w3 ∧ w3.ownsRow w.heap.size 49 5 v3 (insD m acc).length ((insD m acc).flatMap Ms.cells) ∧ (insD m acc).length ≤ i + 1 := by
              intro v3 w3 hm3 ho3
              refine ⟨hmw1.trans hm3, ?_, by rw [insD_length]; omega⟩
              obtain ⟨q1, q2⟩ := ho3
              refine ⟨q1, q2.imp id ?_⟩
              rintro ⟨g, cap, cur, e, hB, r⟩
              exact ⟨g, cap, cur, e, by have := hmw1.size; omega, r⟩
            by_cases c2 : j < acc.length
            · have d2 : (j : Int) < ((acc.length : Nat) : Int) := by omega
              obtain ⟨x, hxi⟩ : ∃ x, acc[j]? = some x := ⟨acc[j], List.getElem?_eq_getElem c2⟩
              obtain ⟨b', o', c'', cur', t', f', he', hb', hsz', hex'⟩ := hat' j x hxi
              have hbu' := hmu2.keep hb' id
              rw [Nat.add_assoc] at hsz' hex'
              have ha' : a' = some ⟨b', o', none⟩ := by simpa using congrArg (fun x => match x with | .slice a _ _ => a | _ => none) he'
              subst ha'
              have hdrop : acc.drop j = x :: acc.drop (j + 1) := List.drop_eq_getElem?_toList_append.trans (by rw [hxi]; rfl)
              have hj0 : (0 : Int) ≤ (j : Int) ∧ (j : Int) < ((acc.length : Nat) : Int) := by omega
              have hw2 : IntKind.i64.wrap ((j : Int) + 1) = ((j + 1 : Nat) : Int) := by rw [wrap_i64 _ (by omega)]; omega
              rw [hdrop, insD_cons] at hkk
              obtain ⟨u3, hu3⟩ : ∃ u3, u3 = Vc.set (u2.alloc (.cells #[.string ⟨#[]⟩, .int .u64 0, .int .u32 0, .int .u64 0, .string ⟨#[]⟩] 49)) u2.heap.size (.cells #[.string x.queue, .int .u64 x.id, .int .u32 x.tries, .int .u64 x.expiry, .string x.body] 49) := ⟨_, rfl⟩
              have hmu3 : Mod (fun _ => False) u2 u3 := by rw [hu3]; exact ((Mod.refl _ _).alloc _).set (.inl (Nat.le_refl _))
              have px3 : u3.heap[u2.heap.size]? = some (.cells #[.string x.queue, .int .u64 x.id, .int .u32 x.tries, .int .u64 x.expiry, .string x.body] 49 (0, 0)) := by rw [hu3]; exact get_set_same _ _ _ (by simp only [size_alloc]; omega)
              have pm3 := hmu3.keep px2 id
              have hz3 : u2.heap.size + 1 = u3.heap.size := by rw [hu3]; simp only [size_set, size_alloc]
              have hne : ¬ u.heap.size = u2.heap.size := by omega
              have hown3 := own_keep' hown2 hmu3 (fun _ _ x => x)
              -- the message that stands there, behind
              have tail : ∀ (u2 : World) (v2 : Value) (acc2 : List Ms), Mod (fun _ => False) u1 u2 → u2.ownsRow u1.heap.size 49 5 v2 acc2.length (acc2.flatMap Ms.cells) → acc2.length ≤ j + 1 →
                  ∃ v5 w5, (Builtin.append_ #[47, 47] 47 #[v2, .slice (some ⟨u2.heap.size, 0, none⟩) 1 1]).run Proofs.Tryz.prog (u2.alloc (.cells #[.string x.queue, .int .u64 x.id, .int .u32 x.tries, .int .u64 x.expiry, .string x.body] 49)) = .ok v5 w5 ∧
                    Mod (fun _ => False) u1 w5 ∧ w5.ownsRow u1.heap.size 49 5 v5 (acc2 ++ [x]).length ((acc2 ++ [x]).flatMap Ms.cells) ∧ (acc2 ++ [x]).length ≤ j + 1 + 1 := by
                intro u2 v2 acc2 hm2 ho2 ha2
                obtain ⟨v5, w5, hr5, ho5, hm5, hb5⟩ := append_bx 47 (by kernel_rfl) u1.heap.size v2 acc2 x u2 ho2 hm2.size (by omega) 47
                refine ⟨v5, w5, hr5, hm2.then hm5 (fun k hk x => by have := World.ownsRow.lt ho2 k x; omega), ho5, by simp; omega⟩
              cases dn with
              | true =>
                rw [if_pos rfl] at hkk
                simp only [vc_skip, vc_seq, vc_cond, vc_block, vc_ops, vcOps_nil, vcOps_cons, vcOps_gate, gateK_false, gate_true, gate_undef, goL_apply, thenQ_normal, condP_true, condP_false, upd_same, upd_other, updO_some, updO_none, ev_tmp, ev_const, insVc, pickK, loadV_some, loadNK, loadNO_cells, storeNK, storeNO_cells, setMany, iopK, iopV, notK, iaddrK, fillL, buildSK, isPlain, Value.cells, ne_eq, not_false_eq_true, Nat.reduceEqDiff, Nat.reduceAdd, Nat.reduceLeDiff, reduceCtorEq, Bool.not_true, List.size_toArray, List.length_cons, List.length_nil, List.zipIdx_cons, List.zipIdx_nil, List.foldl_cons, List.foldl_nil, List.setIfInBounds_toArray, List.set_cons_zero, List.set_cons_succ, List.toList_toArray, true_and, or_false, and_self, if_true, if_false, Bool.false_eq_true, Nat.zero_add, decide_true, Bool.and_true, Int.toNat_natCast, List.extract_toArray, List.extract_eq_take_drop, List.drop_zero, List.take_zero, List.take_succ_cons, Nat.sub_zero, List.all_toArray', List.all_cons, List.all_nil, size_set, size_alloc, get_set_same, Nat.lt_add_one, get_alloc, size_alloc, size_set, Nat.add_assoc, Nat.reduceAdd, Nat.reduceEqDiff, k27, k28, k29, d2, hj0, hbu', hsz', hex', Ms.cells, k9, k8]
                rw [← hu3, hz3]
                obtain ⟨v5, w5, hr5, hm5, ho5, hl5⟩ := tail u3 v2 nx (hmu2.trans hmu3) hown3 (by simpa using hnx)
                refine rawK_append rfl rfl rfl (by simp only [upd_same, upd_other, ev_tmp, ne_eq, not_false_eq_true, Nat.reduceEqDiff]; exact hr5) ?_
                simp only [vc_ops, vcOps_nil, vcOps_cons, goL_apply, thenQ_normal, blockQ_normal, upd_same, upd_other, updO_some, ev_tmp, ev_const, insVc, loadV_some, iopK, iopV, ne_eq, not_false_eq_true, Nat.reduceEqDiff, reduceCtorEq, true_and, or_false, k1, k7, k9, k12, k13, k14, k27, k28, k29, hw2]
                refine ⟨acc.length - (j + 1), by omega, j + 1, nx ++ [x], v5, true, by omega, rfl, rfl, rfl, rfl, hm5, ho5, by simp at hnx ⊢; omega, ?_⟩
                rw [hkk]; simp
              | false =>
                rw [if_neg (by decide)] at hkk
                by_cases q1 : m.expiry < x.expiry
                · have e1 : (m.expiry : Int) < (x.expiry : Int) := by omega
                  rw [if_pos (.inl q1)] at hkk
                  simp only [vc_skip, vc_seq, vc_cond, vc_block, vc_ops, vcOps_nil, vcOps_cons, vcOps_gate, gateK_true, gateK_false, gate_true, gate_false, gate_undef, goL_apply, thenQ_normal, condP_true, upd_same, upd_other, updO_some, updO_none, ev_tmp, ev_const, insVc, pickK, load1K, loadO_cells, loadV_some, loadNK, loadNO_cells, storeNK, storeNO_cells, setMany, iopK, iopV, notK, faddrK, iaddrK, fillL, buildSK, isPlain, Value.cells, ne_eq, not_false_eq_true, Nat.reduceEqDiff, Nat.reduceAdd, Nat.reduceLeDiff, reduceCtorEq, Bool.not_true, Bool.not_false, List.getElem?_cons_zero, List.getElem?_cons_succ, List.getElem?_toArray, List.size_toArray, List.length_cons, List.length_nil, List.zipIdx_cons, List.zipIdx_nil, List.foldl_cons, List.foldl_nil, List.setIfInBounds_toArray, List.set_cons_zero, List.set_cons_succ, List.toList_toArray, true_and, and_true, or_false, and_self, if_true, if_false, Nat.zero_add, decide_true, Bool.and_true, Int.toNat_natCast, List.extract_toArray, List.extract_eq_take_drop, List.drop_zero, List.take_zero, List.take_succ_cons, Nat.sub_zero, List.all_toArray', List.all_cons, List.all_nil, size_set, size_alloc, get_set_same, Nat.lt_add_one, get_alloc, get_set, size_alloc, size_set, Nat.add_assoc, Nat.reduceAdd, Nat.reduceEqDiff, k27, k28, k29, d2, hj0, hbu', hsz', hex', Ms.cells, k9, k8, k7, hne, px2, e1]
                  rw [← hu3, hz3]
                  obtain ⟨v3, w3, hr3, ho3, hm3, hb3⟩ := append_bx 47 (by kernel_rfl) u1.heap.size v2 nx m u3 hown3 (hmu2.trans hmu3).size (by simp at hnx; omega) 47
                  refine rawK_append rfl rfl rfl (by simp only [upd_same, upd_other, ev_tmp, ne_eq, not_false_eq_true, Nat.reduceEqDiff]; exact hr3) ?_
                  have px4 := hm3.keep px3 (fun k => by have := hob2 _ k; omega)
                  have hm03 : Mod (fun _ => False) u1 w3 := (hmu2.trans hmu3).then hm3 (fun k hk x => by have := hob2 k x; omega)
                  simp only [vc_ops, vcOps_nil, vcOps_cons, goL_apply, thenQ_normal, upd_same, upd_other, updO_some, ev_tmp, ev_const, insVc, loadNK, loadNO_cells, fillL, buildSK, Value.cells, ne_eq, not_false_eq_true, Nat.reduceEqDiff, Nat.reduceAdd, Nat.reduceLeDiff, List.size_toArray, List.length_cons, List.length_nil, List.zipIdx_cons, List.zipIdx_nil, List.foldl_cons, List.foldl_nil, List.setIfInBounds_toArray, List.set_cons_zero, List.set_cons_succ, List.toList_toArray, true_and, and_self, if_true, Nat.zero_add, List.extract_toArray, List.extract_eq_take_drop, List.drop_zero, List.take_zero, List.take_succ_cons, Nat.sub_zero, px4]
                  obtain ⟨v5, w5, hr5, ho5, hm5, hb5⟩ := append_bx 47 (by kernel_rfl) u1.heap.size v3 (nx ++ [m]) x w3 ho3 hm03.size (by simp at hnx ⊢; omega) 47
                  refine rawK_append rfl rfl rfl (by simp only [upd_same, upd_other, ev_tmp, ne_eq, not_false_eq_true, Nat.reduceEqDiff]; exact hr5) ?_
                  simp only [vc_ops, vcOps_nil, vcOps_cons, goL_apply, thenQ_normal, blockQ_normal, upd_same, upd_other, updO_some, ev_tmp, ev_const, insVc, loadV_some, iopK, iopV, ne_eq, not_false_eq_true, Nat.reduceEqDiff, reduceCtorEq, true_and, or_false, k1, k7, k12, k13, k14, k27, k28, k29, hw2]
                  refine ⟨acc.length - (j + 1), by omega, j + 1, nx ++ [m] ++ [x], v5, true, by omega, rfl, rfl, rfl, rfl, hm03.then hm5 (fun k hk x => by have := World.ownsRow.lt ho3 k x; omega), ho5, by simp at hnx ⊢; omega, ?_⟩
                  rw [hkk]; simp
                · have e1 : ¬ (m.expiry : Int) < (x.expiry : Int) := by omega
                  by_cases q2 : m.expiry = x.expiry
                  · have e2 : ((m.expiry : Int) == (x.expiry : Int)) = true := by simp [q2]
                    simp only [vc_skip, vc_seq, vc_cond, vc_block, vc_ops, vcOps_nil, vcOps_cons, vcOps_gate, gateK_true, gate_true, gate_false, goL_apply, thenQ_normal, condP_true, upd_same, upd_other, updO_some, updO_none, ev_tmp, insVc, load1K, loadO_cells, loadV_some, loadNK, loadNO_cells, storeNK, storeNO_cells, setMany, iopK, iopV, notK, faddrK, iaddrK, isPlain, Value.cells, ne_eq, not_false_eq_true, Nat.reduceEqDiff, Nat.reduceAdd, Nat.reduceLeDiff, reduceCtorEq, Bool.not_false, List.map_cons, List.map_nil, List.getElem?_cons_zero, List.getElem?_cons_succ, List.getElem?_toArray, List.size_toArray, List.length_cons, List.length_nil, List.setIfInBounds_toArray, List.set_cons_zero, List.set_cons_succ, true_and, and_true, or_false, and_self, if_true, if_false, Nat.zero_add, decide_true, decide_false, Bool.and_true, Int.toNat_natCast, List.extract_toArray, List.extract_eq_take_drop, List.drop_zero, List.take_zero, List.take_succ_cons, Nat.sub_zero, List.all_toArray', List.all_cons, List.all_nil, size_alloc, get_set_same, Nat.lt_add_one, get_alloc, get_set, size_alloc, Nat.add_assoc, Nat.reduceAdd, Nat.reduceEqDiff, k27, k28, k29, d2, hj0, hbu', hsz', hex', Ms.cells, k9, k7, hne, px2, e1, e2]
                    rw [← hu3]
                    refine ahead_c m x u3 _ ?_
                    intro u4 hm4
                    have hm34 := hmu3.trans hm4
                    have px4' := hm4.keep px3 id
                    have pm4 := hm4.keep pm3 id
                    have hown4 := own_keep' hown3 hm4 (fun _ _ x => x)
                    have hz4 := hm4.size
                    cases hah : aheadR m x with
                    | true =>
                      rw [if_pos (.inr ⟨q2, hah⟩)] at hkk
                      simp only [vc_seq, vc_cond, vc_ops, vcOps_nil, vcOps_cons, vcOps_gate, gateK_true, gate_true, gate_false, goL_apply, thenQ_normal, condP_true, upd_same, upd_other, updO_some, ev_tmp, ev_const, insVc, pickK, loadNK, loadNO_cells, fillL, buildSK, Value.cells, ne_eq, not_false_eq_true, Nat.reduceEqDiff, Nat.reduceAdd, Nat.reduceLeDiff, Bool.not_false, List.size_toArray, List.length_cons, List.length_nil, List.zipIdx_cons, List.zipIdx_nil, List.foldl_cons, List.foldl_nil, List.setIfInBounds_toArray, List.set_cons_zero, List.set_cons_succ, List.toList_toArray, true_and, and_self, if_true, if_false, Bool.false_eq_true, Nat.zero_add, List.extract_toArray, List.extract_eq_take_drop, List.drop_zero, List.take_zero, List.take_succ_cons, Nat.sub_zero, k7, k8, pm4]
                      obtain ⟨v3, w3, hr3, ho3, hm3, hb3⟩ := append_bx 47 (by kernel_rfl) u1.heap.size v2 nx m u4 hown4 (hmu2.trans hm34).size (by simp at hnx; omega) 47
                      refine rawK_append rfl rfl rfl (by simp only [upd_same, upd_other, ev_tmp, ne_eq, not_false_eq_true, Nat.reduceEqDiff]; exact hr3) ?_
                      have px4 := hm3.keep px4' (fun k => by have := hob2 _ k; omega)
                      have hm03 : Mod (fun _ => False) u1 w3 := (hmu2.trans hm34).then hm3 (fun k hk x => by have := hob2 k x; omega)
                      simp only [vc_ops, vcOps_nil, vcOps_cons, goL_apply, thenQ_normal, upd_same, upd_other, updO_some, ev_tmp, ev_const, insVc, loadNK, loadNO_cells, fillL, buildSK, Value.cells, ne_eq, not_false_eq_true, Nat.reduceEqDiff, Nat.reduceAdd, Nat.reduceLeDiff, List.size_toArray, List.length_cons, List.length_nil, List.zipIdx_cons, List.zipIdx_nil, List.foldl_cons, List.foldl_nil, List.setIfInBounds_toArray, List.set_cons_zero, List.set_cons_succ, List.toList_toArray, true_and, and_self, if_true, Nat.zero_add, List.extract_toArray, List.extract_eq_take_drop, List.drop_zero, List.take_zero, List.take_succ_cons, Nat.sub_zero, px4]
                      obtain ⟨v5, w5, hr5, ho5, hm5, hb5⟩ := append_bx 47 (by kernel_rfl) u1.heap.size v3 (nx ++ [m]) x w3 ho3 hm03.size (by simp at hnx ⊢; omega) 47
                      refine rawK_append rfl rfl rfl (by simp only [upd_same, upd_other, ev_tmp, ne_eq, not_false_eq_true, Nat.reduceEqDiff]; exact hr5) ?_
                      simp only [vc_ops, vcOps_nil, vcOps_cons, goL_apply, thenQ_normal, blockQ_normal, upd_same, upd_other, updO_some, ev_tmp, ev_const, insVc, loadV_some, iopK, iopV, ne_eq, not_false_eq_true, Nat.reduceEqDiff, reduceCtorEq, true_and, or_false, k1, k7, k12, k13, k14, k27, k28, k29, hw2]
                      refine ⟨acc.length - (j + 1), by omega, j + 1, nx ++ [m] ++ [x], v5, true, by omega, rfl, rfl, rfl, rfl, hm03.then hm5 (fun k hk x => by have := World.ownsRow.lt ho3 k x; omega), ho5, by simp at hnx ⊢; omega, ?_⟩
                      rw [hkk]; simp
                    | false =>
                      rw [if_neg (by rintro (y | y); exact q1 y; rw [hah] at y; cases y.2)] at hkk
                      simp only [vc_skip, vc_cond, vc_ops, vcOps_nil, vcOps_cons, vcOps_gate, gateK_true, gate_true, gate_false, goL_apply, thenQ_normal, condP_false, upd_same, upd_other, updO_some, ev_tmp, ev_const, insVc, pickK, loadNK, loadNO_cells, fillL, buildSK, Value.cells, ne_eq, not_false_eq_true, Nat.reduceEqDiff, Nat.reduceAdd, Nat.reduceLeDiff, Bool.not_false, List.size_toArray, List.length_cons, List.length_nil, List.zipIdx_cons, List.zipIdx_nil, List.foldl_cons, List.foldl_nil, List.setIfInBounds_toArray, List.set_cons_zero, List.set_cons_succ, List.toList_toArray, true_and, and_self, if_true, if_false, Bool.false_eq_true, Nat.zero_add, List.extract_toArray, List.extract_eq_take_drop, List.drop_zero, List.take_zero, List.take_succ_cons, Nat.sub_zero, k8, px4']
                      obtain ⟨v5, w5, hr5, hm5, ho5, hl5⟩ := tail u4 v2 nx (hmu2.trans hm34) hown4 (by simp at hnx; omega)
                      refine rawK_append rfl rfl rfl (by simp only [upd_same, upd_other, ev_tmp, ne_eq, not_false_eq_true, Nat.reduceEqDiff]; exact hr5) ?_
                      simp only [vc_ops, vcOps_nil, vcOps_cons, goL_apply, thenQ_normal, blockQ_normal, upd_same, upd_other, updO_some, ev_tmp, ev_const, insVc, loadV_some, iopK, iopV, ne_eq, not_false_eq_true, Nat.reduceEqDiff, reduceCtorEq, true_and, or_false, k1, k7, k9, k12, k13, k14, k27, k28, k29, hw2]
                      refine ⟨acc.length - (j + 1), by omega, j + 1, nx ++ [x], v5, false, by omega, rfl, rfl, rfl, rfl, hm5, ho5, by simp at hnx ⊢; omega, ?_⟩
                      rw [hkk]; simp
                  · have e2 : ((m.expiry : Int) == (x.expiry : Int)) = false := by rw [beq_eq_false_iff_ne]; omega
                    rw [if_neg (by rintro (y | y); exact q1 y; exact q2 y.1)] at hkk
                    simp only [vc_skip, vc_seq, vc_cond, vc_block, vc_ops, vcOps_nil, vcOps_cons, vcOps_gate, gateK_true, gateK_false, gate_true, gate_false, goL_apply, thenQ_normal, condP_true, condP_false, upd_same, upd_other, updO_some, updO_none, ev_tmp, ev_const, insVc, pickK, load1K, loadO_cells, loadV_some, loadNK, loadNO_cells, storeNK, storeNO_cells, setMany, iopK, iopV, notK, faddrK, iaddrK, fillL, buildSK, isPlain, Value.cells, ne_eq, not_false_eq_true, Nat.reduceEqDiff, Nat.reduceAdd, Nat.reduceLeDiff, reduceCtorEq, Bool.not_false, List.getElem?_cons_zero, List.getElem?_cons_succ, List.getElem?_toArray, List.size_toArray, List.length_cons, List.length_nil, List.zipIdx_cons, List.zipIdx_nil, List.foldl_cons, List.foldl_nil, List.setIfInBounds_toArray, List.set_cons_zero, List.set_cons_succ, List.toList_toArray, true_and, and_true, or_false, and_self, if_true, if_false, Bool.false_eq_true, Nat.zero_add, decide_true, decide_false, Bool.and_true, Int.toNat_natCast, List.extract_toArray, List.extract_eq_take_drop, List.drop_zero, List.take_zero, List.take_succ_cons, Nat.sub_zero, List.all_toArray', List.all_cons, List.all_nil, size_set, size_alloc, get_set_same, Nat.lt_add_one, get_alloc, get_set, size_alloc, size_set, Nat.add_assoc, Nat.reduceAdd, Nat.reduceEqDiff, k27, k28, k29, d2, hj0, hbu', hsz', hex', Ms.cells, k9, k8, k7, hne, px2, e1, e2]
                    rw [← hu3, hz3]
                    obtain ⟨v5, w5, hr5, hm5, ho5, hl5⟩ := tail u3 v2 nx (hmu2.trans hmu3) hown3 (by simp at hnx; omega)
                    refine rawK_append rfl rfl rfl (by simp only [upd_same, upd_other, ev_tmp, ne_eq, not_false_eq_true, Nat.reduceEqDiff]; exact hr5) ?_
                    simp only [vc_ops, vcOps_nil, vcOps_cons, goL_apply, thenQ_normal, blockQ_normal, upd_same, upd_other, updO_some, ev_tmp, ev_const, insVc, loadV_some, iopK, iopV, ne_eq, not_false_eq_true, Nat.reduceEqDiff, reduceCtorEq, true_and, or_false, k1, k7, k9, k12, k13, k14, k27, k28, k29, hw2]
                    refine ⟨acc.length - (j + 1), by omega, j + 1, nx ++ [x], v5, false, by omega, rfl, rfl, rfl, rfl, hm5, ho5, by simp at hnx ⊢; omega, ?_⟩
                    rw [hkk]; simp
            · have d2 : ¬ (j : Int) < ((acc.length : Nat) : Int) := by omega
              have hj2 : j = acc.length := by omega
              rw [hj2, List.drop_length] at hkk
              cases dn with
              | true =>
                rw [if_pos rfl, List.append_nil] at hkk
                simp only [vc_skip, vc_seq, vc_cond, vc_exit, vc_ops, vcOps_nil, vcOps_cons, goL_apply, thenQ_normal, thenQ_exit, blockQ_normal, blockQ_same, condP_false, upd_same, upd_other, updO_some, ev_tmp, ev_const, insVc, loadV_some, iopK, iopV, notK, ne_eq, not_false_eq_true, Nat.reduceEqDiff, reduceCtorEq, Bool.not_true, true_and, or_false, decide_false, k28, k29, d2, k8, k9, k1, k12, k13, k14, hw1]
                rw [← hkk] at hown2
                obtain ⟨y1, y2, y3⟩ := hfin v2 u2 hmu2 hown2
                exact ⟨l.length - (i + 1), by omega, i + 1, insD m acc, v2, by omega, rfl, rfl, rfl, y1, y2, y3, htk.symm⟩
              | false =>
                rw [if_neg (by decide)] at hkk
                simp only [vc_seq, vc_cond, vc_exit, vc_ops, vcOps_nil, vcOps_cons, goL_apply, thenQ_normal, thenQ_exit, blockQ_same, condP_true, condP_false, upd_same, upd_other, updO_some, ev_tmp, insVc, loadV_some, loadNK, loadNO_cells, iopK, iopV, notK, fillL, buildSK, Value.cells, ne_eq, not_false_eq_true, Nat.reduceEqDiff, Nat.reduceAdd, Nat.reduceLeDiff, reduceCtorEq, Bool.not_false, List.size_toArray, List.length_cons, List.length_nil, List.zipIdx_cons, List.zipIdx_nil, List.foldl_cons, List.foldl_nil, List.setIfInBounds_toArray, List.set_cons_zero, List.set_cons_succ, List.toList_toArray, true_and, or_false, and_self, if_true, Nat.zero_add, decide_false, List.extract_toArray, List.extract_eq_take_drop, List.drop_zero, List.take_zero, List.take_succ_cons, Nat.sub_zero, k28, k29, d2, k8, k9, k7, px2]
                obtain ⟨v3, w3, hr3, ho3, hm3, hb3⟩ := append_bx 47 (by kernel_rfl) u1.heap.size v2 nx m u2 hown2 hz2 (by simp at hnx; omega) 47
                refine rawK_append rfl rfl rfl (by simp only [upd_same, upd_other, ev_tmp, ne_eq, not_false_eq_true, Nat.reduceEqDiff]; exact hr3) ?_
                have hm03 : Mod (fun _ => False) u1 w3 := hmu2.then hm3 (fun k hk x => by have := hob2 k x; omega)
                simp only [vc_ops, vcOps_nil, vcOps_cons, goL_apply, thenQ_normal, blockQ_normal, upd_same, upd_other, updO_some, ev_tmp, ev_const, insVc, loadV_some, iopK, iopV, ne_eq, not_false_eq_true, Nat.reduceEqDiff, reduceCtorEq, true_and, or_false, k1, k12, k13, k14, hw1]
                have : nx ++ [m] = insD m acc := hkk.symm
                rw [this] at ho3
                obtain ⟨y1, y2, y3⟩ := hfin v3 w3 hm03 ho3
                exact ⟨l.length - (i + 1), by omega, i + 1, insD m acc, v3, by omega, rfl, rfl, rfl, y1, y2, y3, htk.symm⟩
    · have d1 : ¬ (i : Int) < ((l.length : Nat) : Int) := by omega
      have hi2 : i = l.length := by omega
      rw [hi2, List.take_length] at hk
      simp only [vc_seq, vc_cond, vc_exit, vc_ret, vc_ops, vcOps_nil, vcOps_cons, goL_apply, thenQ_normal, thenQ_exit, blockQ_same, condP_false, upd_same, upd_other, updO_some, ev_tmp, endQ_ret, endK, resK, packed, insVc, loadV_some, iopK, iopV, ne_eq, not_false_eq_true, Nat.reduceEqDiff, reduceCtorEq, List.nil_append, true_and, or_false, decide_false, Nat.reduceEqDiff, h13, h14, d1, h5]
      have : acc = dueR now l := hk
      rw [← this] at h
      exact h u v' hmu hown

end Go.Oct
