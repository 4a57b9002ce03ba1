import Derived.Test.YtbkddpckkgbbmaaGreatDoorVpE
set_option linter.unusedSimpArgs false
set_option linter.unusedVariables false
set_option linter.unusedSectionVars false
set_option linter.unnecessarySimpa false
namespace Go.Oct
open Go Go.Vc Go.VrA Go.VrB
set_option maxRecDepth 100000

/-! ### message.row at Due's closure -/

def dgot {σ : Type} (St : Sto σ) (s : σ) (r : Pr) : Ms × Int :=
  if r.2 ≠ 0 then (ms0, r.2) else
  if (parseR ⟨r.1.1.toArray⟩).2 ≠ 0 then (ms0, (parseR ⟨r.1.1.toArray⟩).2) else dueG St s (parseR ⟨r.1.1.toArray⟩).1
def dueL {σ : Type} (St : Sto σ) (s : σ) : List Pr → List (Ms × Int)
  | [] => []
  | r :: l => if (dgot St s r).2 ≠ 0 then [dgot St s r] else dgot St s r :: dueL St s l
theorem dueL_cons {σ : Type} (St : Sto σ) (s : σ) (r : Pr) (l : List Pr) : dueL St s (r :: l) = if (dgot St s r).2 ≠ 0 then [dgot St s r] else dgot St s r :: dueL St s l := rfl
def msV (l : List (Ms × Int)) : List (List Value) := l.map fun r => [r.1.val, .int .i64 r.2]

/-- the cells that row's function value holds. -/
def RowCells (u : World) (c1 c2 cb : Nat) (gf : FuncId) (cap : List Value) (t : TypeId) (v : Value) : Prop :=
  u.heap[c1]? = some (.cells #[.func (.func gf) #[] cap.toArray] 95 (0, 0)) ∧
  u.heap[c2]? = some (.cells #[.func (.func 71) #[] #[ptr cb]] 156 (0, 0)) ∧
  u.heap[cb]? = some (.cells #[.iface t v] 125 (0, 0))

theorem row1_c {σ : Type} (St : Sto σ) (s : σ) (hp : PureGet St s) (R : List Pr) (gf : FuncId) (cap : List Value) (lo : Nat) (wR : World) (it : IterP Proofs.Tryz.prog gf cap (rowsV R) (fun u => St.At s u ∧ Kept lo wR u)) (c1 c2 cb : Nat) (m : Int)
    (hR : ∀ r ∈ R, (parseR ⟨r.1.1.toArray⟩).1.queue.size < 4294967281 ∧ (parseR ⟨r.1.1.toArray⟩).1.id < 2 ^ 64 ∧ (St.get s (messageK (parseR ⟨r.1.1.toArray⟩).1.queue (parseR ⟨r.1.1.toArray⟩).1.id).1).1.1.size < 2 ^ 60) :
    IterP Proofs.Tryz.prog 141 [ptr c1, ptr c2] (msV (dueL St s R)) (fun u => St.At s u ∧ Gl m u ∧ Kept lo wR u ∧ RowCells u c1 c2 cb gf cap St.t St.v) := by
  rintro y ⟨fy, ya, yb, hyf⟩ J Jx w hJ hF hS hSx hy
  refine F141.enter (args := [y, ptr c1, ptr c2]) (by simp) ?_
  unfold c141 r141
  obtain ⟨hA, hg, hkR, e1, e2, e3⟩ := hF 0 _ _ hJ
  have q1 := lt_of_get e1
  simp only [vc_seq, vc_block, vc_ops, vcOps_nil, vcOps_cons, goL_apply, thenQ_normal, upd_other, updO_some, ev_tmp, initE_at, insVc, load1K, loadO_cells, loadV_some, Value.cells, ne_eq, not_false_eq_true, Nat.reduceEqDiff, Option.getD_some, List.getElem?_cons_zero, List.getElem?_cons_succ, List.getElem?_toArray, if_false, get_alloc, Nat.reduceEqDiff, e1, Nat.ne_of_lt q1]
  refine vc_gen ?_
  intro w4 hw4
  have hm14 : Mod (fun _ => False) w w4 := by rw [hw4]; exact (Mod.refl _ _).alloc _
  have b4 : w4.heap[w.heap.size]? = some (.cells #[y] 202 (0, 0)) := by rw [hw4]; simp only [if_true, get_alloc, hyf]
  have hz4 : w4.heap.size = w.heap.size + 1 := by rw [hw4, size_alloc]
  clear hw4
  let XO : (Nat → Prop) → Nat → Prop := fun X k => (w.heap.size ≤ k ∧ k < w4.heap.size + 2) ∨ X k
  have hXO : ∀ (X X' : Nat → Prop) (a b : World), (∀ k, X' k → X k ∨ a.heap.size ≤ k ∧ k < b.heap.size) → ∀ k, XO X' k → XO X k ∨ a.heap.size ≤ k ∧ k < b.heap.size := by
    rintro X X' a b h k (hk | hk)
    · exact .inl (.inl hk)
    · exact (h k hk).elim (fun x => .inl (.inr x)) .inr
  have hfin : ∀ (u : World) (X : Nat → Prop) (u' : World), w4.heap.size + 2 ≤ u.heap.size → (∀ k, X k → w4.heap.size ≤ k ∧ k < u.heap.size) → J (msV (dueL St s R)).length (XO X) u ∨ Jx (XO X) u → Mod (fun k => k = w4.heap.size) u u' →
      w.heap.size ≤ u'.heap.size ∧ ∃ X, (∀ k, X k → w.heap.size ≤ k ∧ k < u'.heap.size) ∧ (J (msV (dueL St s R)).length X u' ∨ Jx X u') := by
    intro u X u' h1 h2 h3 h4
    have h5 := h4.size
    have hb : ∀ k, XO X k → w.heap.size ≤ k ∧ k < u'.heap.size := by
      rintro k (hk | hk)
      · omega
      · have := h2 k hk; omega
    have hm : Mod (XO X) u u' := h4.mono fun k _ hk => .inl (by omega)
    exact ⟨by omega, XO X, hb, h3.imp (fun h => hS _ _ _ u u' h hm (fun k hk => .inl hk)) (fun h => hSx _ _ u u' h hm (fun k hk => .inl hk))⟩
  refine range_iter (by kernel_rfl) (by kernel_rfl) (by kernel_rfl) (gf := gf) (cap := cap) (by simp only [upd_same, ev_tmp]) it
    (fun i X u => (∃ pre : List (Ms × Int), pre.length = i ∧ dueL St s R = pre ++ dueL St s (R.drop i)) ∧ J i (XO X) u ∧ Kept w.heap.size w4 u)
    (fun c X u => c = .ret ∧ (J (msV (dueL St s R)).length (XO X) u ∨ Jx (XO X) u)) ?_ ?_ ?_ ?_ ?_ ?_ ?_ ?_
  · intro X w' hm hsz hX
    refine ⟨⟨[], rfl, by simp⟩, hS 0 _ _ w w' hJ ((hm14.trans hm).mono fun _ _ x => x.elim) ?_, (Kept.refl _ _).keep hm (fun _ _ _ => id)⟩
    rintro k (hk | hk)
    · exact .inr ⟨hk.1, by omega⟩
    · have := hX k hk
      exact .inr (by omega)
  · rintro i X u ⟨_, h1, h2⟩
    exact ⟨(hF _ _ _ h1).1, (hF _ _ _ h1).2.2.1⟩
  · rintro i X X' a b ⟨h0, h1, h2⟩ hX ha hm hx
    exact ⟨h0, hS i _ _ a b h1 (hm.mono fun _ _ x => .inr x) (hXO X X' a b hx), h2.keep hm (fun k _ hk x => by have := hX k x; omega)⟩
  · rintro c X X' a b ⟨rfl, h⟩ hX ha hm hx
    exact ⟨rfl, h.imp (fun h => hS _ _ _ a b h (hm.mono fun _ _ x => .inr x) (hXO X X' a b hx)) (fun h => hSx _ _ a b h (hm.mono fun _ _ x => .inr x) (hXO X X' a b hx))⟩
  · intro i hi
    rw [List.getElem?_eq_getElem hi]
    simp [rowsV]
  · intro i hi X a ⟨⟨pre, p1, p2⟩, hJa, hKa⟩ hX ha
    obtain ⟨r, hr⟩ : ∃ r, R[i]? = some r := ⟨R[i]'(by simpa [rowsV] using hi), List.getElem?_eq_getElem _⟩
    have hrow : ((rowsV R)[i]?.getD []) = [.agg #[.string ⟨r.1.1.toArray⟩, .string ⟨r.1.2.toArray⟩], .int .i64 r.2] := by simp [rowsV, hr]
    have hvr := hR r (List.mem_of_getElem? hr)
    have hdrop : R.drop i = r :: R.drop (i + 1) := List.drop_eq_getElem?_toList_append.trans (by rw [hr]; rfl)
    rw [hrow]
    simp only [vc_seq, vc_cond, vc_block, vc_ops, vcOps_nil, vcOps_cons, goL_apply, thenQ_normal, upd_same, upd_other, updO_some, updO_none, ev_tmp, ev_const, insVc, loadV_some, storeNK, storeNO_cells, setMany, iopK, iopV, isPlain, Value.cells, ne_eq, not_false_eq_true, Nat.reduceEqDiff, Nat.reduceAdd, Nat.reduceLeDiff, reduceCtorEq, List.size_toArray, List.length_cons, List.length_nil, List.setIfInBounds_toArray, List.set_cons_zero, List.set_cons_succ, true_and, or_false, and_self, Nat.zero_add, Bool.and_true, List.all_toArray', List.all_cons, List.all_nil, size_alloc, get_alloc_new, updMany]
    refine ⟨((Mod.refl _ _).alloc _).set (.inl (Nat.le_refl _)), ?_⟩
    rintro c hmc ⟨_, hJc, hKc⟩
    have hxa : ¬ X a.heap.size := fun x => by have := (hX _ x).2; omega
    have pC := hmc.keep (get_set_same _ _ (.cells #[.string ⟨r.1.1.toArray⟩, .string ⟨r.1.2.toArray⟩] 29 (0, 0)) (by rw [size_alloc]; omega)) hxa
    have bC := hKc.at b4 (Nat.le_refl _)
    obtain ⟨hAc, hgc, _, _, e2c, e3c⟩ := hF _ _ _ hJc
    have hpre : ∃ pre : List (Ms × Int), pre.length = i ∧ dueL St s R = pre ++ dueL St s (r :: R.drop (i + 1)) := ⟨pre, p1, by rw [p2, hdrop]⟩
    have hhead : ∃ tl, dueL St s (r :: R.drop (i + 1)) = dgot St s r :: tl ∧ ((dgot St s r).2 ≠ 0 → tl = []) ∧ ((dgot St s r).2 = 0 → tl = dueL St s (R.drop (i + 1))) := by
      rw [dueL_cons]
      by_cases hx : (dgot St s r).2 ≠ 0
      · rw [if_pos hx]; exact ⟨[], rfl, fun _ => rfl, fun h => (hx h).elim⟩
      · rw [if_neg hx]; exact ⟨_, rfl, fun h => (hx h).elim, fun _ => rfl⟩
    obtain ⟨tl, htl, htl1, htl2⟩ := hhead
    have hszc : w4.heap.size + 2 ≤ c.heap.size := by have := hmc.size; simp only [size_set, size_alloc] at this; omega
    have hyield : ∀ (u : World) (o : Ms × Int) (G : Value → World → Prop), dgot St s r = o → Mod (fun _ => False) c u →
        (∀ d, c.heap.size ≤ d.heap.size → (∀ k, XO X k → d.heap[k]? = u.heap[k]?) → J (i + 1) (XO X) d → G (.bool true) d) → (∀ d, c.heap.size ≤ d.heap.size → (∀ k, XO X k → d.heap[k]? = u.heap[k]?) → Jx (XO X) d → G (.bool false) d) →
        callvK Proofs.Tryz.prog G u [o.1.val, .int .i64 o.2] y := by
      intro u o G ho hmu hG1 hG2
      obtain ⟨pre, h1, h2⟩ := hpre
      have hi' : (msV (dueL St s R))[i]? = some [o.1.val, .int .i64 o.2] := by rw [h2, htl, ho]; simp [msV, h1]
      have hlt : i < (msV (dueL St s R)).length := by
        rcases Nat.lt_or_ge i (msV (dueL St s R)).length with h | h
        · exact h
        · rw [List.getElem?_eq_none h] at hi'; cases hi'
      have hmus := hmu.size
      have hbd : ∀ k, XO X k → w.heap.size ≤ k ∧ k < u.heap.size := by
        have := hmc.size
        rintro k (hk | hk)
        · omega
        · have := hX k hk; simp only [size_set, size_alloc] at *; omega
      have hJu := hS i _ (XO X) c u hJc (hmu.mono fun _ _ x => x.elim) (fun k hk => .inl hk)
      have hyy := hy i hlt (XO X) u hJu hbd (by omega)
      rw [hi'] at hyy
      refine callvK_mono hyy ?_
      rintro v d ⟨⟨k1, k2⟩, ⟨rfl, k3⟩ | ⟨rfl, k3⟩⟩
      · exact hG1 d (by omega) k2 k3
      · exact hG2 d (by omega) k2 k3
    have hkeepX : ∀ (u d : World), Mod (fun _ => False) c u → (∀ k, XO X k → d.heap[k]? = u.heap[k]?) → ∀ k, X k → d.heap[k]? = c.heap[k]? := by
      intro u d hmu hd k hk
      have := (hX k hk).2
      have := hmc.size
      simp only [size_set, size_alloc] at this
      rw [hd k (.inr hk), hmu.get k (by omega) id]
    have hkeepK : ∀ (u d : World), Mod (fun _ => False) c u → c.heap.size ≤ d.heap.size → (∀ k, XO X k → d.heap[k]? = u.heap[k]?) → Kept w.heap.size w4 d := by
      intro u d hmu hs hd
      refine ⟨by omega, fun k h1 h2 => ?_⟩
      rw [hd k (.inl ⟨h1, by omega⟩), hmu.get k (by omega) id, hKc.2 k h1 h2]
    have hout : ∀ (u d : World), Mod (fun _ => False) c u → c.heap.size ≤ d.heap.size → (∀ k, XO X k → d.heap[k]? = u.heap[k]?) → Jx (XO X) d ∨ ((dgot St s r).2 ≠ 0 ∧ J (i + 1) (XO X) d) →
        (c.heap.size ≤ d.heap.size ∧ ∀ k, X k → d.heap[k]? = c.heap[k]?) ∧ (False ∧ (∃ pre : List (Ms × Int), pre.length = i + 1 ∧ dueL St s R = pre ++ dueL St s (R.drop (i + 1))) ∧ J (i + 1) (XO X) d ∧ Kept w.heap.size w4 d ∨
          ∃ cc, (cc = Code.ret ∨ ∃ id, cc = Code.exit id ∧ False) ∧ cc = Code.ret ∧ (J (msV (dueL St s R)).length (XO X) d ∨ Jx (XO X) d)) := by
      intro u d hmu k1 k2 k3
      refine ⟨⟨k1, hkeepX u d hmu k2⟩, .inr ⟨.ret, .inl rfl, rfl, ?_⟩⟩
      rcases k3 with k3 | ⟨k4, k3⟩
      · exact .inr k3
      · obtain ⟨pre, h1, h2⟩ := hpre
        have hlen : (msV (dueL St s R)).length = i + 1 := by rw [h2, htl, htl1 k4]; simp [msV, h1]
        rw [hlen]
        exact .inl k3
    have hin : ∀ (u d : World), Mod (fun _ => False) c u → c.heap.size ≤ d.heap.size → (∀ k, XO X k → d.heap[k]? = u.heap[k]?) → (dgot St s r).2 = 0 → J (i + 1) (XO X) d →
        (∃ pre : List (Ms × Int), pre.length = i + 1 ∧ dueL St s R = pre ++ dueL St s (R.drop (i + 1))) ∧ J (i + 1) (XO X) d ∧ Kept w.heap.size w4 d := by
      intro u d hmu k1 k2 h00 k3
      refine ⟨?_, k3, hkeepK u d hmu k1 k2⟩
      obtain ⟨pre, h1, h2⟩ := hpre
      exact ⟨pre ++ [dgot St s r], by simp [h1], by rw [h2, htl, htl2 h00]; simp⟩
    refine condP_gen ?_
    intro w5 hw5
    have hm5 : Mod (fun _ => False) c w5 := by rw [hw5]; exact ((Mod.refl _ _).alloc _).alloc _
    have t5 : w5.heap[c.heap.size]? = some (.cells #[.string ⟨#[]⟩, .string ⟨#[]⟩, .int .u64 0, .int .u64 0, .string ⟨#[]⟩, .int .i64 0, .string ⟨#[]⟩, .string ⟨#[]⟩, .string ⟨#[]⟩] 98 (0, 0)) := by rw [hw5]; simp only [if_true, if_false, size_alloc, get_alloc, size_alloc, Nat.left_eq_add, Nat.one_ne_zero]
    have x5 : w5.heap[c.heap.size + 1]? = some (.cells zms 49 (0, 0)) := by rw [hw5]; simp only [if_true, if_false, size_alloc, get_alloc, size_alloc, Nat.add_eq_left, Nat.one_ne_zero]
    clear hw5
    have p5 := hm5.keep pC id
    have b5 := hm5.keep bC id
    have e5 := hm5.keep e2c id
    have l1 := lt_of_get pC
    have l2 := lt_of_get bC
    have l4 := lt_of_get e2c
    by_cases he : r.2 = 0
    · have hgot : dgot St s r = if (parseR ⟨r.1.1.toArray⟩).2 ≠ 0 then (ms0, (parseR ⟨r.1.1.toArray⟩).2) else dueG St s (parseR ⟨r.1.1.toArray⟩).1 := by unfold dgot; rw [if_neg (by simpa using he)]
      rw [he]
      have b00 : ((0 : Int) == 0) = true := rfl
      simp only [vc_ops, vcOps_cons, goL_apply, condP_true, upd_same, upd_other, updO_some, ev_tmp, insVc, load1K, loadO_cells, loadV_some, faddrK, ne_eq, not_false_eq_true, Nat.reduceEqDiff, List.map_cons, List.map_nil, List.getElem?_cons_zero, List.getElem?_toArray, Nat.add_zero, p5, b00]
      refine parse_c _ w5 _ ?_
      intro w6 hm6
      have t6 := hm6.keep t5 id
      have p6 := hm6.keep p5 id
      have b6 := hm6.keep b5 id
      have e6 := hm6.keep e5 id
      have x6 := hm6.keep x5 id
      have hm56 := hm5.trans hm6
      revert hgot hvr
      generalize parseR ⟨r.1.1.toArray⟩ = T
      intro hvr hgot
      simp only [vc_seq, vc_cond, vc_ops, vcOps_nil, vcOps_cons, goL_apply, thenQ_normal, upd_same, upd_other, updO_some, updO_none, ev_tmp, ev_const, insVc, loadV_some, storeNK, storeNO_cells, setMany, iopK, iopV, extK, isPlain, ne_eq, not_false_eq_true, Nat.reduceEqDiff, Nat.reduceAdd, Nat.reduceLeDiff, reduceCtorEq, List.getElem?_cons_zero, List.getElem?_cons_succ, List.getElem?_toArray, List.size_toArray, List.length_cons, List.length_nil, List.setIfInBounds_toArray, List.set_cons_zero, List.set_cons_succ, true_and, or_false, and_self, Nat.zero_add, Bool.and_true, List.all_toArray', List.all_cons, List.all_nil, Th.val, Th.cells, t6]
      refine condP_gen ?_
      intro w7 hw7
      have hm7' : Mod (fun k => k = c.heap.size) w6 w7 := by rw [hw7]; exact (Mod.refl _ _).set (.inr rfl)
      have hm7 : Mod (fun _ => False) c w7 := by rw [hw7]; exact hm56.set (.inl (Nat.le_refl _))
      have t7 : w7.heap[c.heap.size]? = some (.cells T.1.cells.toArray 98 (0, 0)) := by rw [hw7]; exact get_set_same _ _ _ (lt_of_get t6)
      have p7 := hm7'.keep p6 (by omega)
      have b7 := hm7'.keep b6 (by omega)
      have e7 := hm7'.keep e6 (by omega)
      have x7 := hm7'.keep x6 (by omega)
      clear hw7
      by_cases hT : T.2 = 0
      · rw [if_neg (by simpa using hT)] at hgot
        rw [hT]
        simp only [Th.cells] at t7
        simp only [vc_ops, vcOps_cons, goL_apply, condP_true, upd_same, upd_other, updO_some, ev_tmp, initE_at, insVc, load1K, loadO_cells, loadV_some, loadNK, loadNO_cells, faddrK, callvK, ne_eq, not_false_eq_true, Nat.reduceEqDiff, Nat.reduceAdd, Nat.reduceLeDiff, Option.getD_some, List.map_cons, List.map_nil, List.getElem?_cons_zero, List.getElem?_cons_succ, List.getElem?_toArray, List.size_toArray, List.length_cons, List.length_nil, List.nil_append, List.cons_append, true_and, Nat.zero_add, List.extract_toArray, List.extract_eq_take_drop, List.drop_zero, List.take_zero, List.take_succ_cons, Nat.sub_zero, b00, e7, t7, p7]
        refine due1_c St s hp T.1 _ cb m w7 _ (St.keep0 hAc hm7) (hgc.mod hm7 id) hvr.1 hvr.2.1 hvr.2.2 (hm7.keep e3c id) ?_
        intro w8 hm8
        have hm78 := hm7.trans hm8
        have x8 := hm8.keep x7 id
        have b8 := hm8.keep b7 id
        revert hgot
        generalize dueG St s T.1 = Z
        intro hgot
        have y1 : ¬ w.heap.size = c.heap.size + 1 := by omega
        have lx := lt_of_get x8
        have hm9 : Mod (fun _ => False) c (Vc.set w8 (c.heap.size + 1) (.cells #[.string Z.1.queue, .int .u64 Z.1.id, .int .u32 Z.1.tries, .int .u64 Z.1.expiry, .string Z.1.body] 49 (0, 0))) := hm78.set (.inl (by omega))
        simp only [vc_seq, vc_ops, vcOps_nil, vcOps_cons, goL_apply, thenQ_normal, upd_same, upd_other, updO_some, updO_none, ev_tmp, insVc, load1K, loadO_cells, loadV_some, loadNK, loadNO_cells, storeNK, storeNO_cells, setMany, extK, callvK, isPlain, ne_eq, not_false_eq_true, Nat.reduceEqDiff, Nat.reduceAdd, Nat.reduceLeDiff, List.map_cons, List.map_nil, List.getElem?_cons_zero, List.getElem?_cons_succ, List.getElem?_toArray, List.size_toArray, List.length_cons, List.length_nil, List.setIfInBounds_toArray, List.set_cons_zero, List.set_cons_succ, true_and, and_true, and_self, if_false, Nat.zero_add, Bool.and_true, List.extract_toArray, List.extract_eq_take_drop, List.drop_zero, List.take_zero, List.take_succ_cons, Nat.sub_zero, List.all_toArray', List.all_cons, List.all_nil, get_set_same, get_set, Nat.reduceAdd, Nat.reduceEqDiff, Ms.val, Ms.cells, x8, b8, y1, lx]
        refine hyield _ Z _ hgot hm9 ?_ ?_
        · intro d k1 k2 k3
          by_cases hZ : Z.2 = 0
          · have hne' : (Z.2 != 0) = false := by simpa using hZ
            simp only [vc_skip, vc_cond, vcOps_nil, vcOps_cons, vcOps_gate, gateK_true, gate_false, goL_apply, thenQ_normal, blockQ_normal, condP_false, upd_same, upd_other, updO_some, ev_tmp, ev_const, insVc, pickK, loadV_some, iopK, iopV, notK, ne_eq, not_false_eq_true, Nat.reduceEqDiff, reduceCtorEq, Bool.not_true, Bool.not_false, true_and, or_false, if_false, Bool.false_eq_true, hne']
            exact ⟨⟨k1, hkeepX _ d hm9 k2⟩, .inl (hin _ d hm9 k1 k2 (by rw [hgot]; exact hZ) k3)⟩
          · have hne' : (Z.2 != 0) = true := by simpa using hZ
            simp only [vc_cond, vc_ret, vcOps_nil, vcOps_cons, vcOps_gate, gateK_true, gate_false, goL_apply, thenQ_normal, blockQ_ret, condP_true, upd_same, upd_other, updO_some, ev_tmp, ev_const, insVc, pickK, loadV_some, iopK, iopV, notK, ne_eq, not_false_eq_true, Nat.reduceEqDiff, reduceCtorEq, Bool.not_true, Bool.not_false, true_and, and_true, or_false, if_false, Bool.false_eq_true, hne']
            exact hout _ d hm9 k1 k2 (.inr ⟨by rw [hgot]; exact hZ, k3⟩)
        · intro d k1 k2 k3
          simp only [vc_cond, vc_ret, vcOps_nil, vcOps_cons, vcOps_gate, gateK_false, gate_false, goL_apply, thenQ_normal, blockQ_ret, condP_true, upd_same, upd_other, updO_some, ev_tmp, ev_const, insVc, pickK, notK, ne_eq, not_false_eq_true, Nat.reduceEqDiff, reduceCtorEq, Bool.not_true, Bool.not_false, and_true, if_true]
          exact hout _ d hm9 k1 k2 (.inl k3)
      · rw [if_pos hT] at hgot
        have hne : (T.2 == 0) = false := by simpa using hT
        have hne' : (T.2 != 0) = true := by simpa using hT
        simp only [vc_skip, vc_seq, vc_ops, vcOps_cons, goL_apply, thenQ_normal, condP_false, upd_same, upd_other, updO_some, ev_tmp, insVc, load1K, loadO_cells, loadV_some, loadNK, loadNO_cells, callvK, ne_eq, not_false_eq_true, Nat.reduceEqDiff, Nat.reduceAdd, Nat.reduceLeDiff, List.map_cons, List.map_nil, List.getElem?_cons_zero, List.getElem?_toArray, List.size_toArray, List.length_cons, List.length_nil, true_and, Nat.zero_add, List.extract_toArray, List.extract_eq_take_drop, List.drop_zero, List.take_zero, List.take_succ_cons, Nat.sub_zero, hne, b7, x7]
        refine hyield w7 (ms0, T.2) _ hgot hm7 ?_ ?_
        · intro d k1 k2 k3
          simp only [vc_cond, vc_ret, vcOps_nil, vcOps_cons, vcOps_gate, gateK_true, gate_false, goL_apply, thenQ_normal, blockQ_ret, condP_true, upd_same, upd_other, updO_some, ev_tmp, ev_const, insVc, pickK, loadV_some, iopK, iopV, notK, ne_eq, not_false_eq_true, Nat.reduceEqDiff, reduceCtorEq, Bool.not_true, Bool.not_false, true_and, and_true, or_false, if_false, Bool.false_eq_true, hne']
          exact hout w7 d hm7 k1 k2 (.inr ⟨by rw [hgot]; exact hT, k3⟩)
        · intro d k1 k2 k3
          simp only [vc_cond, vc_ret, vcOps_nil, vcOps_cons, vcOps_gate, gateK_false, gate_false, goL_apply, thenQ_normal, blockQ_ret, condP_true, upd_same, upd_other, updO_some, ev_tmp, ev_const, insVc, pickK, notK, ne_eq, not_false_eq_true, Nat.reduceEqDiff, reduceCtorEq, Bool.not_true, Bool.not_false, and_true, if_true]
          exact hout w7 d hm7 k1 k2 (.inl k3)
    · have hgot : dgot St s r = (ms0, r.2) := by unfold dgot; rw [if_pos he]
      have hne : (r.2 == 0) = false := by simpa using he
      have hne' : (r.2 != 0) = true := by simpa using he
      simp only [vc_skip, vc_seq, vc_cond, vc_ops, vcOps_nil, vcOps_cons, goL_apply, thenQ_normal, condP_false, upd_same, upd_other, updO_some, ev_tmp, ev_const, insVc, load1K, loadO_cells, loadV_some, loadNK, loadNO_cells, iopK, iopV, callvK, ne_eq, not_false_eq_true, Nat.reduceEqDiff, Nat.reduceAdd, Nat.reduceLeDiff, reduceCtorEq, List.map_cons, List.map_nil, List.getElem?_cons_zero, List.getElem?_toArray, List.size_toArray, List.length_cons, List.length_nil, true_and, or_false, Nat.zero_add, List.extract_toArray, List.extract_eq_take_drop, List.drop_zero, List.take_zero, List.take_succ_cons, Nat.sub_zero, hne, b5, x5]
      refine hyield w5 (ms0, r.2) _ hgot hm5 ?_ ?_
      · intro d k1 k2 k3
        simp only [vc_cond, vc_ret, vcOps_nil, vcOps_cons, vcOps_gate, gateK_true, gate_false, goL_apply, thenQ_normal, blockQ_ret, condP_true, upd_same, upd_other, updO_some, ev_tmp, ev_const, insVc, pickK, loadV_some, iopK, iopV, notK, ne_eq, not_false_eq_true, Nat.reduceEqDiff, reduceCtorEq, Bool.not_true, Bool.not_false, true_and, and_true, or_false, if_false, Bool.false_eq_true, hne']
        exact hout w5 d hm5 k1 k2 (.inr ⟨by rw [hgot]; exact he, k3⟩)
      · intro d k1 k2 k3
        simp only [vc_cond, vc_ret, vcOps_nil, vcOps_cons, vcOps_gate, gateK_false, gate_false, goL_apply, thenQ_normal, blockQ_ret, condP_true, upd_same, upd_other, updO_some, ev_tmp, ev_const, insVc, pickK, notK, ne_eq, not_false_eq_true, Nat.reduceEqDiff, reduceCtorEq, Bool.not_true, Bool.not_false, and_true, if_true]
        exact hout w5 d hm5 k1 k2 (.inl k3)
  · rintro X u ⟨⟨pre, h1, h2⟩, h3, h4⟩ ⟨a1, a2, a3⟩
    have hfin' := fun h => hfin u X (Vc.set u w4.heap.size (.deferred none)) a2 a3 h ((Mod.refl _ _).set (.inr rfl))
    simp only [size_set] at hfin'
    have hlen : (rowsV R).length = R.length := by simp [rowsV]
    rw [hlen, List.drop_length] at h2
    have hl : (rowsV R).length = (msV (dueL St s R)).length := by rw [h2, hlen]; simp [msV, dueL, h1, hlen]
    simp only [blockQ_normal, endQ_normal, endK, resK, size_set, markO, a1]
    refine hfin' (.inl ?_)
    rw [← hl]; exact h3
  · rintro c X u ⟨rfl, h⟩ ⟨a1, a2, a3⟩
    have hfin' := hfin u X (Vc.set u w4.heap.size (.deferred none)) a2 a3 h ((Mod.refl _ _).set (.inr rfl))
    simp only [size_set] at hfin'
    simp only [exitOf, blockQ_ret, endQ_ret, endK, resK, size_set, markO, a1]
    exact hfin'

end Go.Oct

namespace Go.Oct
open Go Go.Vc Go.VrA Go.VrB
set_option maxRecDepth 100000

/-! ### message.Due -/

def dueTo (now : Nat) : ByteArray := if now < 18446744073709551615 then (underK ⟨#[101]⟩ [num' (now + 1)]).1 else (underK ⟨#[101]⟩ []).2
def Sto.dueRows {σ : Type} (St : Sto σ) (s : σ) (now : Nat) : List Pr := (St.rng s (underK ⟨#[101]⟩ []).1 (dueTo now)).1

theorem due_c {σ : Type} (St : Sto σ) (s : σ) (hp : PureGet St s) (hpr : PureRng St s) (now : Nat) (m : Int) (w : World) (K : Value → World → Prop) (hAt : St.At s w) (hg : Gl m w) (hn : now < 2 ^ 64)
    (hR : ∀ r ∈ St.dueRows s now, (parseR ⟨r.1.1.toArray⟩).1.queue.size < 4294967281 ∧ (parseR ⟨r.1.1.toArray⟩).1.id < 2 ^ 64 ∧ (St.get s (messageK (parseR ⟨r.1.1.toArray⟩).1.queue (parseR ⟨r.1.1.toArray⟩).1.id).1).1.1.size < 2 ^ 60)
    (h : ∀ w' gf cap, Mod (fun _ => False) w w' → IterP Proofs.Tryz.prog gf cap (msV (dueL St s (St.dueRows s now))) (fun u => St.At s u ∧ Gl m u ∧ Kept w.heap.size w' u) → K (.func (.func gf) #[] cap.toArray) w') :
    Ok Proofs.Tryz.prog 27 #[.iface St.t St.v, .int .u64 now] w K := by
  refine F27.enter (args := [.iface St.t St.v, .int .u64 now]) (by simp) ?_
  unfold c27 r27
  simp only [vc_seq, vc_ops, vcOps_nil, vcOps_cons, goL_apply, thenQ_normal, updO_some, ev_tmp, ev_const, initE_at, insVc, Value.cells, Option.getD_some, List.map_cons, List.map_nil, List.getElem?_cons_zero]
  refine callK_gen ?_
  intro w1 hw1
  have hm1 : Mod (fun _ => False) w w1 := by rw [hw1]; exact (Mod.refl _ _).alloc _
  have e1 : w1.heap[w.heap.size]? = some (.cells #[.iface St.t St.v] 125 (0, 0)) := by rw [hw1]; exact get_alloc_new _ _
  clear hw1
  refine under_c ⟨#[101]⟩ [] _ m w1 _ (hg.mod hm1 id) (.inl ⟨rfl, _, rfl⟩) (by simp) (by decide) (fun _ h => by cases h) ?_
  intro w2 hm2
  have e2 := hm2.keep e1 id
  have hm12 := hm1.trans hm2
  have fin : ∀ (w3 : World) (G : Value → World → Prop), Mod (fun _ => False) w w3 → w3.heap[w.heap.size]? = some (.cells #[.iface St.t St.v] 125 (0, 0)) →
      (∀ w4 gf cap, Mod (fun _ => False) w3 w4 → IterP Proofs.Tryz.prog gf cap (rowsV (St.dueRows s now)) (fun u => St.At s u ∧ Kept w3.heap.size w4 u) → G (.func (.func gf) #[] cap.toArray) w4) →
      InvK Proofs.Tryz.prog G St.t St.v "Range" [.string (underK ⟨#[101]⟩ []).1, .string (dueTo now)] w3 := by
    intro w3 G hm3 _ hG
    exact hpr (underK ⟨#[101]⟩ []).1 (dueTo now) w3 G (St.keep0 hAt hm3) hG
  have last : ∀ (w3 w4 : World) (gf : FuncId) (cap : List Value) (G : Value → World → Prop), Mod (fun _ => False) w w3 → w3.heap[w.heap.size]? = some (.cells #[.iface St.t St.v] 125 (0, 0)) → Mod (fun _ => False) w3 w4 →
      IterP Proofs.Tryz.prog gf cap (rowsV (St.dueRows s now)) (fun u => St.At s u ∧ Kept w3.heap.size w4 u) →
      (∀ v w', K v w' → G v w') → CallK Proofs.Tryz.prog G 70 [.func (.func gf) #[] cap.toArray, .func (.func 71) #[] #[ptr w.heap.size]] w4 := by
    intro w3 w4 gf cap G hm3 e3 hm4 it hG
    refine F70.enter (args := [_, _]) (by simp) ?_
    unfold c70 r70
    simp only [vc_seq, vc_ret, vc_ops, vcOps_nil, vcOps_cons, goL_apply, thenQ_normal, upd_same, upd_other, updO_some, ev_tmp, ev_const, endQ_ret, endK, resK, packed, initE_at, insVc, Value.cells, ne_eq, not_false_eq_true, Nat.reduceEqDiff, Option.getD_some, List.map_cons, List.map_nil, List.getElem?_cons_zero, List.getElem?_cons_succ, List.nil_append, size_alloc, size_alloc, Nat.reduceEqDiff]
    refine hG _ _ ?_
    have hmR : Mod (fun _ => False) w4 ((w4.alloc (.cells #[.func (.func gf) #[] cap.toArray] 95)).alloc (.cells #[.func (.func 71) #[] #[ptr w.heap.size]] 156)) := ((Mod.refl _ _).alloc _).alloc _
    have z3 := hm3.size
    have z4 := hm4.size
    refine h _ _ [ptr w4.heap.size, ptr (w4.heap.size + 1)] ((hm3.trans hm4).trans hmR) (iterP_mono (row1_c St s hp (St.dueRows s now) gf cap w3.heap.size w4 it w4.heap.size (w4.heap.size + 1) w.heap.size m hR) ?_)
    rintro u ⟨k1, k2, k3⟩
    refine ⟨k1, k2, ?_, k3.at ?_ (by omega), k3.at ?_ (by omega), k3.at (hmR.keep (hm4.keep e3 id) id) (Nat.le_refl _)⟩
    · refine ⟨Nat.le_trans hmR.size k3.1, fun k h1 h2 => ?_⟩
      have := hmR.size
      rw [k3.2 k (by omega) (by omega), hmR.get k h2 id]
    · simp only [if_true, if_false, size_alloc, get_alloc, size_alloc, Nat.left_eq_add, Nat.one_ne_zero]
    · simp only [if_true, if_false, size_alloc, get_alloc, size_alloc, Nat.add_eq_left, Nat.one_ne_zero]
  by_cases hc : now < 18446744073709551615
  · have hc' : ((now : Nat) : Int) < 18446744073709551615 := by omega
    have hto : dueTo now = (underK ⟨#[101]⟩ [num' (now + 1)]).1 := by unfold dueTo; rw [if_pos hc]
    have hwr : IntKind.u64.wrap ((now : Int) + 1) = ((now + 1 : Nat) : Int) := by rw [IntKind.wrap_u64]; omega
    simp only [vc_seq, vc_cond, vc_ops, vcOps_nil, vcOps_cons, goL_apply, thenQ_normal, condP_true, upd_same, upd_other, updO_some, ev_tmp, ev_const, initE_at, insVc, loadV_some, iopK, iopV, extK, ne_eq, not_false_eq_true, Nat.reduceEqDiff, reduceCtorEq, Option.getD_some, List.map_cons, List.map_nil, List.getElem?_cons_zero, List.getElem?_cons_succ, List.getElem?_toArray, true_and, or_false, decide_true, hc', hwr]
    refine num_c (now + 1) w2 _ ?_
    intro w3 hm3
    simp only [vcOps_cons, goL_apply, upd_same, updO_some, ev_tmp, ev_const, insVc, fillL, buildSK, Value.cells, Nat.reduceAdd, Nat.reduceLeDiff, List.map_cons, List.map_nil, List.size_toArray, List.length_cons, List.length_nil, List.zipIdx_cons, List.zipIdx_nil, List.foldl_cons, List.foldl_nil, List.setIfInBounds_toArray, List.set_cons_zero, List.set_cons_succ, List.toList_toArray, and_self, if_true, Nat.zero_add, Pt.val, Pt.cells, num']
    have hm4 : Mod (fun _ => False) w3 (w3.alloc (.cells #[.bool false, .int .u64 (now + 1 : Nat), .string e0] 118)) := (Mod.refl _ _).alloc _
    have hm14 := (hm12.trans hm3).trans hm4
    refine under_c ⟨#[101]⟩ [num' (now + 1)] _ m _ _ (hg.mod hm14 id) (.inr (pts_lit w3 [num' (now + 1)] _ rfl)) (by simp) (by decide) ?_ ?_
    · intro p hp'
      rw [List.mem_singleton.1 hp']
      exact ⟨by show now + 1 < 2 ^ 64; omega, by simp [num', e0, ByteArray.size]⟩
    intro w5 hm5
    have e5 := (hm3.trans (hm4.trans hm5)).keep e2 id
    have hm15 := hm14.trans hm5
    rw [← hto]
    simp only [vc_seq, vc_ops, vcOps_nil, vcOps_cons, goL_apply, thenQ_normal, upd_same, upd_other, updO_some, ev_tmp, insVc, load1K, loadO_cells, loadV_some, extK, invK, ne_eq, not_false_eq_true, Nat.reduceEqDiff, List.map_cons, List.map_nil, List.getElem?_cons_zero, List.getElem?_cons_succ, List.getElem?_toArray, e5]
    refine fin w5 _ hm15 e5 ?_
    intro w6 gf cap hm6 it
    simp only [vcOps_cons, goL_apply, upd_same, upd_other, updO_some, ev_tmp, insVc, ne_eq, not_false_eq_true, Nat.reduceEqDiff, List.map_cons, List.map_nil]
    refine last w5 w6 gf cap _ hm15 e5 hm6 it ?_
    intro v w' hv
    simp only [vc_ret, vcOps_nil, vcOps_cons, goL_apply, thenQ_normal, upd_same, updO_some, ev_tmp, endQ_ret, endK, resK, packed, insVc, List.nil_append]
    exact hv
  · have hc' : ¬ ((now : Nat) : Int) < 18446744073709551615 := by omega
    have hto : dueTo now = (underK ⟨#[101]⟩ []).2 := by unfold dueTo; rw [if_neg hc]
    rw [← hto]
    simp only [vc_skip, vc_seq, vc_cond, vc_ops, vcOps_nil, vcOps_cons, goL_apply, thenQ_normal, condP_false, upd_same, upd_other, updO_some, ev_tmp, ev_const, initE_at, insVc, load1K, loadO_cells, loadV_some, iopK, iopV, extK, invK, ne_eq, not_false_eq_true, Nat.reduceEqDiff, reduceCtorEq, Option.getD_some, List.map_cons, List.map_nil, List.getElem?_cons_zero, List.getElem?_cons_succ, List.getElem?_toArray, true_and, or_false, decide_false, hc', e2]
    refine fin w2 _ hm12 e2 ?_
    intro w6 gf cap hm6 it
    simp only [vcOps_cons, goL_apply, upd_same, upd_other, updO_some, ev_tmp, insVc, ne_eq, not_false_eq_true, Nat.reduceEqDiff, List.map_cons, List.map_nil]
    refine last w2 w6 gf cap _ hm12 e2 hm6 it ?_
    intro v w' hv
    simp only [vc_ret, vcOps_nil, vcOps_cons, goL_apply, thenQ_normal, upd_same, updO_some, ev_tmp, endQ_ret, endK, resK, packed, insVc, List.nil_append]
    exact hv

end Go.Oct
