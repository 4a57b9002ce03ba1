import Derived.Test.YtbkddpckkgbbmaaGreatDoorVzC
import Derived.Test.YtbkddpckkgbbmaaGreatDoorVpG
set_option linter.unusedSimpArgs false
set_option linter.unusedVariables false
set_option linter.unusedSectionVars false
set_option linter.unnecessarySimpa false
namespace Go.Oct
open Go Go.Vc Go.VrA Go.VrB Go.VrE
set_option maxRecDepth 100000

/-! ### message.bounds, List's closures -/

theorem list1_c (t : Th) (v : ByteArray) (w : World) (K : Value → World → Prop) (hv : v.size < 2 ^ 60)
    (h : ∀ w', Mod (fun _ => False) w w' → K (.tuple #[(mread t.queue t.id v).1.val, .int .i64 (mread t.queue t.id v).2]) w') :
    Ok Proofs.Tryz.prog 111 #[t.val, .string v] w K := by
  refine F111.enter (args := [t.val, .string v]) (by simp) ?_
  unfold c111 r111
  simp only [vc_seq, vc_ops, vcOps_nil, vcOps_cons, goL_apply, thenQ_normal, upd_same, upd_other, updO_some, ev_tmp, ev_const, initE_at, insVc, load1K, loadO_cells, loadV_some, faddrK, Value.cells, ne_eq, not_false_eq_true, Nat.reduceEqDiff, Option.getD_some, List.map_cons, List.map_nil, List.getElem?_cons_zero, List.getElem?_cons_succ, List.getElem?_toArray, if_true, if_false, Nat.zero_add, size_alloc, get_alloc, size_alloc, Nat.left_eq_add, Nat.reduceEqDiff, Nat.one_ne_zero, Th.val, Th.cells]
  refine callK_gen ?_
  intro w1 hw1
  have hm1 : Mod (fun _ => False) w w1 := by rw [hw1]; exact ((Mod.refl _ _).alloc _).alloc _
  have r1 : w1.heap[w.heap.size + 1]? = some (.cells zms 49 (0, 0)) := by rw [hw1]; simp only [if_true, if_false, size_alloc, get_alloc, size_alloc, Nat.add_eq_left, Nat.one_ne_zero]
  clear hw1
  refine messages_c t.queue t.id w1 _ ?_
  intro w2 mv hm2 hM2
  have r2 := hm2.keep r1 id
  simp only [vcOps_cons, goL_apply, upd_same, upd_other, updO_some, ev_tmp, initE_at, insVc, ne_eq, not_false_eq_true, Nat.reduceEqDiff, Option.getD_some, List.map_cons, List.map_nil, List.getElem?_cons_zero, List.getElem?_cons_succ]
  refine mread_c mv _ t.queue t.id v w2 _ hM2 hv ?_
  intro w3 hm3
  have r3' := hm3.keep r2 id
  simp only [vc_ret, vcOps_nil, vcOps_cons, goL_apply, thenQ_normal, upd_same, upd_other, updO_some, updO_none, ev_tmp, endQ_ret, endK, resK, resN, resNO_cells, packed, insVc, loadV_some, storeNK, storeNO_cells, setMany, extK, isPlain, ne_eq, not_false_eq_true, Nat.reduceEqDiff, Nat.reduceAdd, Nat.reduceLeDiff, List.getElem?_cons_zero, List.getElem?_cons_succ, List.getElem?_toArray, List.size_toArray, List.length_cons, List.length_nil, List.setIfInBounds_toArray, List.set_cons_zero, List.set_cons_succ, List.nil_append, List.cons_append, true_and, and_self, Nat.zero_add, Bool.and_true, List.extract_toArray, List.extract_eq_take_drop, List.drop_zero, List.take_zero, List.take_succ_cons, Nat.sub_zero, List.all_toArray', List.all_cons, List.all_nil, Ms.val, Ms.cells, r3', get_set_same _ _ _ (lt_of_get r3')]
  exact h _ (((hm1.trans hm2).trans hm3).set (.inl (by omega)))

def boundsL (queue : ByteArray) (n : Nat) : ByteArray × ByteArray := ((messageK queue n).1, (underK ⟨#[109]⟩ [str queue]).2)
theorem bounds_c (queue : ByteArray) (n : Nat) (m : Int) (w : World) (K : Value → World → Prop) (hg : Gl m w) (hs : queue.size < 4294967281) (hn : n < 2 ^ 64)
    (h : ∀ w', Mod (fun _ => False) w w' → K (.tuple #[.string (boundsL queue n).1, .string (boundsL queue n).2]) w') :
    Ok Proofs.Tryz.prog 109 #[.string queue, .int .u64 n] w K := by
  refine F109.enter (args := [.string queue, .int .u64 n]) (by simp) ?_
  unfold c109 r109
  simp only [vc_seq, vc_ops, vcOps_nil, vcOps_cons, goL_apply, thenQ_normal, upd_same, upd_other, updO_some, ev_tmp, ev_const, initE_at, insVc, ne_eq, not_false_eq_true, reduceCtorEq, Option.getD_some, List.map_cons, List.map_nil, List.getElem?_cons_zero]
  refine str_c queue w _ ?_
  intro w1 hm1
  simp only [vcOps_cons, goL_apply, upd_same, updO_some, ev_tmp, ev_const, insVc, fillL, buildSK, Value.cells, Nat.reduceAdd, Nat.reduceLeDiff, List.map_cons, List.map_nil, List.size_toArray, List.length_cons, List.length_nil, List.zipIdx_cons, List.zipIdx_nil, List.foldl_cons, List.foldl_nil, List.setIfInBounds_toArray, List.set_cons_zero, List.set_cons_succ, List.toList_toArray, and_self, if_true, Nat.zero_add, Pt.val, Pt.cells, str]
  have hm2 : Mod (fun _ => False) w1 (w1.alloc (.cells #[.bool true, .int .u64 (0 : Nat), .string queue] 118)) := (Mod.refl _ _).alloc _
  have hm12 := hm1.trans hm2
  refine under_c ⟨#[109]⟩ [str queue] _ m _ _ (hg.mod hm12 id) (.inr (pts_lit w1 [str queue] _ rfl)) (by simp) (by decide) ?_ ?_
  · intro p hp'
    rw [List.mem_singleton.1 hp']
    exact ⟨by show 0 < 2 ^ 64; decide, by simpa [str] using hs⟩
  intro w3 hm3
  have hm13 := hm12.trans hm3
  simp only [vc_seq, vc_ops, vcOps_nil, vcOps_cons, goL_apply, thenQ_normal, upd_same, upd_other, updO_some, ev_tmp, initE_at, insVc, loadV_some, extK, ne_eq, not_false_eq_true, Nat.reduceEqDiff, reduceCtorEq, Option.getD_some, List.map_cons, List.map_nil, List.getElem?_cons_zero, List.getElem?_cons_succ, List.getElem?_toArray]
  refine message_c queue n m w3 _ (hg.mod hm13 id) hs hn ?_
  intro w4 hm4
  simp only [vc_seq, vc_ret, vc_ops, vcOps_nil, vcOps_cons, goL_apply, thenQ_normal, upd_same, upd_other, updO_some, ev_tmp, endQ_ret, endK, resK, packed, insVc, loadV_some, extK, ne_eq, not_false_eq_true, Nat.reduceEqDiff, List.getElem?_cons_zero, List.getElem?_cons_succ, List.getElem?_toArray, List.nil_append, List.cons_append]
  exact h w4 (hm13.trans hm4)
end Go.Oct

namespace Go.Oct
open Go Go.Vc Go.VrA Go.VrB Go.VrE
set_option maxRecDepth 100000

/-! ### message.row at List's closure -/

def lgot (r : Pr) : Ms × Int :=
  if r.2 ≠ 0 then (ms0, r.2) else
  if (parseR ⟨r.1.1.toArray⟩).2 ≠ 0 then (ms0, (parseR ⟨r.1.1.toArray⟩).2) else mread (parseR ⟨r.1.1.toArray⟩).1.queue (parseR ⟨r.1.1.toArray⟩).1.id ⟨r.1.2.toArray⟩
def rowL : List Pr → List (Ms × Int)
  | [] => []
  | r :: l => if (lgot r).2 ≠ 0 then [lgot r] else lgot r :: rowL l
theorem rowL_cons (r : Pr) (l : List Pr) : rowL (r :: l) = if (lgot r).2 ≠ 0 then [lgot r] else lgot r :: rowL l := rfl
def RowCellsL (u : World) (c1 c2 : Nat) (gf : FuncId) (cap : List Value) : Prop :=
  u.heap[c1]? = some (.cells #[.func (.func gf) #[] cap.toArray] 95 (0, 0)) ∧
  u.heap[c2]? = some (.cells #[.func (.func 111) #[] #[]] 156 (0, 0))

theorem rowl_c {σ : Type} (St : Sto σ) (s : σ) (R : List Pr) (gf : FuncId) (cap : List Value) (lo : Nat) (wR : World) (it : IterP Proofs.Tryz.prog gf cap (rowsV R) (fun u => St.At s u ∧ Kept lo wR u)) (c1 c2 : Nat) (m : Int)
    (hR : ∀ r ∈ R, r.1.2.length < 2 ^ 60) :
    IterP Proofs.Tryz.prog 141 [ptr c1, ptr c2] (msV (rowL R)) (fun u => St.At s u ∧ Gl m u ∧ Kept lo wR u ∧ RowCellsL u c1 c2 gf cap) := by
  rintro y ⟨fy, ya, yb, hyf⟩ J Jx w hJ hF hS hSx hy
  refine F141.enter (args := [y, ptr c1, ptr c2]) (by simp) ?_
  unfold c141 r141
  obtain ⟨hA, hg, hkR, e1, e2⟩ := hF 0 _ _ hJ
  have q1 := lt_of_get e1
  simp only [vc_seq, vc_block, vc_ops, vcOps_nil, vcOps_cons, goL_apply, thenQ_normal, upd_other, updO_some, ev_tmp, initE_at, insVc, load1K, loadO_cells, loadV_some, Value.cells, ne_eq, not_false_eq_true, Nat.reduceEqDiff, Option.getD_some, List.getElem?_cons_zero, List.getElem?_cons_succ, List.getElem?_toArray, if_false, get_alloc, Nat.reduceEqDiff, e1, Nat.ne_of_lt q1]
  refine vc_gen ?_
  intro w4 hw4
  have hm14 : Mod (fun _ => False) w w4 := by rw [hw4]; exact (Mod.refl _ _).alloc _
  have b4 : w4.heap[w.heap.size]? = some (.cells #[y] 202 (0, 0)) := by rw [hw4]; simp only [if_true, get_alloc, hyf]
  have hz4 : w4.heap.size = w.heap.size + 1 := by rw [hw4, size_alloc]
  clear hw4
  let XO : (Nat → Prop) → Nat → Prop := fun X k => (w.heap.size ≤ k ∧ k < w4.heap.size + 2) ∨ X k
  have hXO : ∀ (X X' : Nat → Prop) (a b : World), (∀ k, X' k → X k ∨ a.heap.size ≤ k ∧ k < b.heap.size) → ∀ k, XO X' k → XO X k ∨ a.heap.size ≤ k ∧ k < b.heap.size := by
    rintro X X' a b h k (hk | hk)
    · exact .inl (.inl hk)
    · exact (h k hk).elim (fun x => .inl (.inr x)) .inr
  have hfin : ∀ (u : World) (X : Nat → Prop) (u' : World), w4.heap.size + 2 ≤ u.heap.size → (∀ k, X k → w4.heap.size ≤ k ∧ k < u.heap.size) → J (msV (rowL R)).length (XO X) u ∨ Jx (XO X) u → Mod (fun k => k = w4.heap.size) u u' →
      w.heap.size ≤ u'.heap.size ∧ ∃ X, (∀ k, X k → w.heap.size ≤ k ∧ k < u'.heap.size) ∧ (J (msV (rowL R)).length X u' ∨ Jx X u') := by
    intro u X u' h1 h2 h3 h4
    have h5 := h4.size
    have hb : ∀ k, XO X k → w.heap.size ≤ k ∧ k < u'.heap.size := by
      rintro k (hk | hk)
      · omega
      · have := h2 k hk; omega
    have hm : Mod (XO X) u u' := h4.mono fun k _ hk => .inl (by omega)
    exact ⟨by omega, XO X, hb, h3.imp (fun h => hS _ _ _ u u' h hm (fun k hk => .inl hk)) (fun h => hSx _ _ u u' h hm (fun k hk => .inl hk))⟩
  refine range_iter (by kernel_rfl) (by kernel_rfl) (by kernel_rfl) (gf := gf) (cap := cap) (by simp only [upd_same, ev_tmp]) it
    (fun i X u => (∃ pre : List (Ms × Int), pre.length = i ∧ rowL R = pre ++ rowL (R.drop i)) ∧ J i (XO X) u ∧ Kept w.heap.size w4 u)
    (fun c X u => c = .ret ∧ (J (msV (rowL R)).length (XO X) u ∨ Jx (XO X) u)) ?_ ?_ ?_ ?_ ?_ ?_ ?_ ?_
  · intro X w' hm hsz hX
    refine ⟨⟨[], rfl, by simp⟩, hS 0 _ _ w w' hJ ((hm14.trans hm).mono fun _ _ x => x.elim) ?_, (Kept.refl _ _).keep hm (fun _ _ _ => id)⟩
    rintro k (hk | hk)
    · exact .inr ⟨hk.1, by omega⟩
    · have := hX k hk
      exact .inr (by omega)
  · rintro i X u ⟨_, h1, h2⟩
    exact ⟨(hF _ _ _ h1).1, (hF _ _ _ h1).2.2.1⟩
  · rintro i X X' a b ⟨h0, h1, h2⟩ hX ha hm hx
    exact ⟨h0, hS i _ _ a b h1 (hm.mono fun _ _ x => .inr x) (hXO X X' a b hx), h2.keep hm (fun k _ hk x => by have := hX k x; omega)⟩
  · rintro c X X' a b ⟨rfl, h⟩ hX ha hm hx
    exact ⟨rfl, h.imp (fun h => hS _ _ _ a b h (hm.mono fun _ _ x => .inr x) (hXO X X' a b hx)) (fun h => hSx _ _ a b h (hm.mono fun _ _ x => .inr x) (hXO X X' a b hx))⟩
  · intro i hi
    rw [List.getElem?_eq_getElem hi]
    simp [rowsV]
  · intro i hi X a ⟨⟨pre, p1, p2⟩, hJa, hKa⟩ hX ha
    obtain ⟨r, hr⟩ : ∃ r, R[i]? = some r := ⟨R[i]'(by simpa [rowsV] using hi), List.getElem?_eq_getElem _⟩
    have hrow : ((rowsV R)[i]?.getD []) = [.agg #[.string ⟨r.1.1.toArray⟩, .string ⟨r.1.2.toArray⟩], .int .i64 r.2] := by simp [rowsV, hr]
    have hvr := hR r (List.mem_of_getElem? hr)
    have hdrop : R.drop i = r :: R.drop (i + 1) := List.drop_eq_getElem?_toList_append.trans (by rw [hr]; rfl)
    rw [hrow]
    simp only [vc_seq, vc_cond, vc_block, vc_ops, vcOps_nil, vcOps_cons, goL_apply, thenQ_normal, upd_same, upd_other, updO_some, updO_none, ev_tmp, ev_const, insVc, loadV_some, storeNK, storeNO_cells, setMany, iopK, iopV, isPlain, Value.cells, ne_eq, not_false_eq_true, Nat.reduceEqDiff, Nat.reduceAdd, Nat.reduceLeDiff, reduceCtorEq, List.size_toArray, List.length_cons, List.length_nil, List.setIfInBounds_toArray, List.set_cons_zero, List.set_cons_succ, true_and, or_false, and_self, Nat.zero_add, Bool.and_true, List.all_toArray', List.all_cons, List.all_nil, size_alloc, get_alloc_new, updMany]
    refine ⟨((Mod.refl _ _).alloc _).set (.inl (Nat.le_refl _)), ?_⟩
    rintro c hmc ⟨_, hJc, hKc⟩
    have hxa : ¬ X a.heap.size := fun x => by have := (hX _ x).2; omega
    have pC := hmc.keep (get_set_same _ _ (.cells #[.string ⟨r.1.1.toArray⟩, .string ⟨r.1.2.toArray⟩] 29 (0, 0)) (by rw [size_alloc]; omega)) hxa
    have bC := hKc.at b4 (Nat.le_refl _)
    obtain ⟨hAc, hgc, _, _, e2c⟩ := hF _ _ _ hJc
    have hpre : ∃ pre : List (Ms × Int), pre.length = i ∧ rowL R = pre ++ rowL (r :: R.drop (i + 1)) := ⟨pre, p1, by rw [p2, hdrop]⟩
    have hhead : ∃ tl, rowL (r :: R.drop (i + 1)) = lgot r :: tl ∧ ((lgot r).2 ≠ 0 → tl = []) ∧ ((lgot r).2 = 0 → tl = rowL (R.drop (i + 1))) := by
      rw [rowL_cons]
      by_cases hx : (lgot r).2 ≠ 0
      · rw [if_pos hx]; exact ⟨[], rfl, fun _ => rfl, fun h => (hx h).elim⟩
      · rw [if_neg hx]; exact ⟨_, rfl, fun h => (hx h).elim, fun _ => rfl⟩
    obtain ⟨tl, htl, htl1, htl2⟩ := hhead
    have hszc : w4.heap.size + 2 ≤ c.heap.size := by have := hmc.size; simp only [size_set, size_alloc] at this; omega
    have hyield : ∀ (u : World) (o : Ms × Int) (G : Value → World → Prop), lgot r = o → Mod (fun _ => False) c u →
        (∀ d, c.heap.size ≤ d.heap.size → (∀ k, XO X k → d.heap[k]? = u.heap[k]?) → J (i + 1) (XO X) d → G (.bool true) d) → (∀ d, c.heap.size ≤ d.heap.size → (∀ k, XO X k → d.heap[k]? = u.heap[k]?) → Jx (XO X) d → G (.bool false) d) →
        callvK Proofs.Tryz.prog G u [o.1.val, .int .i64 o.2] y := by
      intro u o G ho hmu hG1 hG2
      obtain ⟨pre, h1, h2⟩ := hpre
      have hi' : (msV (rowL R))[i]? = some [o.1.val, .int .i64 o.2] := by rw [h2, htl, ho]; simp [msV, h1]
      have hlt : i < (msV (rowL R)).length := by
        rcases Nat.lt_or_ge i (msV (rowL R)).length with h | h
        · exact h
        · rw [List.getElem?_eq_none h] at hi'; cases hi'
      have hmus := hmu.size
      have hbd : ∀ k, XO X k → w.heap.size ≤ k ∧ k < u.heap.size := by
        have := hmc.size
        rintro k (hk | hk)
        · omega
        · have := hX k hk; simp only [size_set, size_alloc] at *; omega
      have hJu := hS i _ (XO X) c u hJc (hmu.mono fun _ _ x => x.elim) (fun k hk => .inl hk)
      have hyy := hy i hlt (XO X) u hJu hbd (by omega)
      rw [hi'] at hyy
      refine callvK_mono hyy ?_
      rintro v d ⟨⟨k1, k2⟩, ⟨rfl, k3⟩ | ⟨rfl, k3⟩⟩
      · exact hG1 d (by omega) k2 k3
      · exact hG2 d (by omega) k2 k3
    have hkeepX : ∀ (u d : World), Mod (fun _ => False) c u → (∀ k, XO X k → d.heap[k]? = u.heap[k]?) → ∀ k, X k → d.heap[k]? = c.heap[k]? := by
      intro u d hmu hd k hk
      have := (hX k hk).2
      have := hmc.size
      simp only [size_set, size_alloc] at this
      rw [hd k (.inr hk), hmu.get k (by omega) id]
    have hkeepK : ∀ (u d : World), Mod (fun _ => False) c u → c.heap.size ≤ d.heap.size → (∀ k, XO X k → d.heap[k]? = u.heap[k]?) → Kept w.heap.size w4 d := by
      intro u d hmu hs hd
      refine ⟨by omega, fun k h1 h2 => ?_⟩
      rw [hd k (.inl ⟨h1, by omega⟩), hmu.get k (by omega) id, hKc.2 k h1 h2]
    have hout : ∀ (u d : World), Mod (fun _ => False) c u → c.heap.size ≤ d.heap.size → (∀ k, XO X k → d.heap[k]? = u.heap[k]?) → Jx (XO X) d ∨ ((lgot r).2 ≠ 0 ∧ J (i + 1) (XO X) d) →
        (c.heap.size ≤ d.heap.size ∧ ∀ k, X k → d.heap[k]? = c.heap[k]?) ∧ (False ∧ (∃ pre : List (Ms × Int), pre.length = i + 1 ∧ rowL R = pre ++ rowL (R.drop (i + 1))) ∧ J (i + 1) (XO X) d ∧ Kept w.heap.size w4 d ∨
          ∃ cc, (cc = Code.ret ∨ ∃ id, cc = Code.exit id ∧ False) ∧ cc = Code.ret ∧ (J (msV (rowL R)).length (XO X) d ∨ Jx (XO X) d)) := by
      intro u d hmu k1 k2 k3
      refine ⟨⟨k1, hkeepX u d hmu k2⟩, .inr ⟨.ret, .inl rfl, rfl, ?_⟩⟩
      rcases k3 with k3 | ⟨k4, k3⟩
      · exact .inr k3
      · obtain ⟨pre, h1, h2⟩ := hpre
        have hlen : (msV (rowL R)).length = i + 1 := by rw [h2, htl, htl1 k4]; simp [msV, h1]
        rw [hlen]
        exact .inl k3
    have hin : ∀ (u d : World), Mod (fun _ => False) c u → c.heap.size ≤ d.heap.size → (∀ k, XO X k → d.heap[k]? = u.heap[k]?) → (lgot r).2 = 0 → J (i + 1) (XO X) d →
        (∃ pre : List (Ms × Int), pre.length = i + 1 ∧ rowL R = pre ++ rowL (R.drop (i + 1))) ∧ J (i + 1) (XO X) d ∧ Kept w.heap.size w4 d := by
      intro u d hmu k1 k2 h00 k3
      refine ⟨?_, k3, hkeepK u d hmu k1 k2⟩
      obtain ⟨pre, h1, h2⟩ := hpre
      exact ⟨pre ++ [lgot r], by simp [h1], by rw [h2, htl, htl2 h00]; simp⟩
    refine condP_gen ?_
    intro w5 hw5
    have hm5 : Mod (fun _ => False) c w5 := by rw [hw5]; exact ((Mod.refl _ _).alloc _).alloc _
    have t5 : w5.heap[c.heap.size]? = some (.cells #[.string ⟨#[]⟩, .string ⟨#[]⟩, .int .u64 0, .int .u64 0, .string ⟨#[]⟩, .int .i64 0, .string ⟨#[]⟩, .string ⟨#[]⟩, .string ⟨#[]⟩] 98 (0, 0)) := by rw [hw5]; simp only [if_true, if_false, size_alloc, get_alloc, size_alloc, Nat.left_eq_add, Nat.one_ne_zero]
    have x5 : w5.heap[c.heap.size + 1]? = some (.cells zms 49 (0, 0)) := by rw [hw5]; simp only [if_true, if_false, size_alloc, get_alloc, size_alloc, Nat.add_eq_left, Nat.one_ne_zero]
    clear hw5
    have p5 := hm5.keep pC id
    have b5 := hm5.keep bC id
    have e5 := hm5.keep e2c id
    have l1 := lt_of_get pC
    have l2 := lt_of_get bC
    have l4 := lt_of_get e2c
    by_cases he : r.2 = 0
    · have hgot : lgot r = if (parseR ⟨r.1.1.toArray⟩).2 ≠ 0 then (ms0, (parseR ⟨r.1.1.toArray⟩).2) else mread (parseR ⟨r.1.1.toArray⟩).1.queue (parseR ⟨r.1.1.toArray⟩).1.id ⟨r.1.2.toArray⟩ := by unfold lgot; rw [if_neg (by simpa using he)]
      rw [he]
      have b00 : ((0 : Int) == 0) = true := rfl
      simp only [vc_ops, vcOps_cons, goL_apply, condP_true, upd_same, upd_other, updO_some, ev_tmp, insVc, load1K, loadO_cells, loadV_some, faddrK, ne_eq, not_false_eq_true, Nat.reduceEqDiff, List.map_cons, List.map_nil, List.getElem?_cons_zero, List.getElem?_toArray, Nat.add_zero, p5, b00]
      refine parse_c _ w5 _ ?_
      intro w6 hm6
      have t6 := hm6.keep t5 id
      have p6 := hm6.keep p5 id
      have b6 := hm6.keep b5 id
      have e6 := hm6.keep e5 id
      have x6 := hm6.keep x5 id
      have hm56 := hm5.trans hm6
      revert hgot
      generalize parseR ⟨r.1.1.toArray⟩ = T
      intro hgot
      simp only [vc_seq, vc_cond, vc_ops, vcOps_nil, vcOps_cons, goL_apply, thenQ_normal, upd_same, upd_other, updO_some, updO_none, ev_tmp, ev_const, insVc, loadV_some, storeNK, storeNO_cells, setMany, iopK, iopV, extK, isPlain, ne_eq, not_false_eq_true, Nat.reduceEqDiff, Nat.reduceAdd, Nat.reduceLeDiff, reduceCtorEq, List.getElem?_cons_zero, List.getElem?_cons_succ, List.getElem?_toArray, List.size_toArray, List.length_cons, List.length_nil, List.setIfInBounds_toArray, List.set_cons_zero, List.set_cons_succ, true_and, or_false, and_self, Nat.zero_add, Bool.and_true, List.all_toArray', List.all_cons, List.all_nil, Th.val, Th.cells, t6]
      refine condP_gen ?_
      intro w7 hw7
      have hm7' : Mod (fun k => k = c.heap.size) w6 w7 := by rw [hw7]; exact (Mod.refl _ _).set (.inr rfl)
      have hm7 : Mod (fun _ => False) c w7 := by rw [hw7]; exact hm56.set (.inl (Nat.le_refl _))
      have t7 : w7.heap[c.heap.size]? = some (.cells T.1.cells.toArray 98 (0, 0)) := by rw [hw7]; exact get_set_same _ _ _ (lt_of_get t6)
      have p7 := hm7'.keep p6 (by omega)
      have b7 := hm7'.keep b6 (by omega)
      have e7 := hm7'.keep e6 (by omega)
      have x7 := hm7'.keep x6 (by omega)
      clear hw7
      by_cases hT : T.2 = 0
      · rw [if_neg (by simpa using hT)] at hgot
        rw [hT]
        simp only [Th.cells] at t7
        simp only [vc_ops, vcOps_cons, goL_apply, condP_true, upd_same, upd_other, updO_some, ev_tmp, initE_at, insVc, load1K, loadO_cells, loadV_some, loadNK, loadNO_cells, faddrK, callvK, ne_eq, not_false_eq_true, Nat.reduceEqDiff, Nat.reduceAdd, Nat.reduceLeDiff, Option.getD_some, List.map_cons, List.map_nil, List.getElem?_cons_zero, List.getElem?_cons_succ, List.getElem?_toArray, List.size_toArray, List.length_cons, List.length_nil, List.nil_append, List.append_nil, true_and, Nat.zero_add, List.extract_toArray, List.extract_eq_take_drop, List.drop_zero, List.take_zero, List.take_succ_cons, Nat.sub_zero, b00, e7, t7, p7]
        refine list1_c T.1 ⟨r.1.2.toArray⟩ w7 _ hvr ?_
        intro w8 hm8
        have hm78 := hm7.trans hm8
        have x8 := hm8.keep x7 id
        have b8 := hm8.keep b7 id
        revert hgot
        generalize mread T.1.queue T.1.id ⟨r.1.2.toArray⟩ = Z
        intro hgot
        have y1 : ¬ w.heap.size = c.heap.size + 1 := by omega
        have lx := lt_of_get x8
        have hm9 : Mod (fun _ => False) c (Vc.set w8 (c.heap.size + 1) (.cells #[.string Z.1.queue, .int .u64 Z.1.id, .int .u32 Z.1.tries, .int .u64 Z.1.expiry, .string Z.1.body] 49 (0, 0))) := hm78.set (.inl (by omega))
        simp only [vc_seq, vc_ops, vcOps_nil, vcOps_cons, goL_apply, thenQ_normal, upd_same, upd_other, updO_some, updO_none, ev_tmp, insVc, load1K, loadO_cells, loadV_some, loadNK, loadNO_cells, storeNK, storeNO_cells, setMany, extK, callvK, isPlain, ne_eq, not_false_eq_true, Nat.reduceEqDiff, Nat.reduceAdd, Nat.reduceLeDiff, List.map_cons, List.map_nil, List.getElem?_cons_zero, List.getElem?_cons_succ, List.getElem?_toArray, List.size_toArray, List.length_cons, List.length_nil, List.setIfInBounds_toArray, List.set_cons_zero, List.set_cons_succ, true_and, and_true, and_self, if_false, Nat.zero_add, Bool.and_true, List.extract_toArray, List.extract_eq_take_drop, List.drop_zero, List.take_zero, List.take_succ_cons, Nat.sub_zero, List.all_toArray', List.all_cons, List.all_nil, get_set_same, get_set, Nat.reduceAdd, Nat.reduceEqDiff, Ms.val, Ms.cells, x8, b8, y1, lx]
        refine hyield _ Z _ hgot hm9 ?_ ?_
        · intro d k1 k2 k3
          by_cases hZ : Z.2 = 0
          · have hne' : (Z.2 != 0) = false := by simpa using hZ
            simp only [vc_skip, vc_cond, vcOps_nil, vcOps_cons, vcOps_gate, gateK_true, gate_false, goL_apply, thenQ_normal, blockQ_normal, condP_false, upd_same, upd_other, updO_some, ev_tmp, ev_const, insVc, pickK, loadV_some, iopK, iopV, notK, ne_eq, not_false_eq_true, Nat.reduceEqDiff, reduceCtorEq, Bool.not_true, Bool.not_false, true_and, or_false, if_false, Bool.false_eq_true, hne']
            exact ⟨⟨k1, hkeepX _ d hm9 k2⟩, .inl (hin _ d hm9 k1 k2 (by rw [hgot]; exact hZ) k3)⟩
          · have hne' : (Z.2 != 0) = true := by simpa using hZ
            simp only [vc_cond, vc_ret, vcOps_nil, vcOps_cons, vcOps_gate, gateK_true, gate_false, goL_apply, thenQ_normal, blockQ_ret, condP_true, upd_same, upd_other, updO_some, ev_tmp, ev_const, insVc, pickK, loadV_some, iopK, iopV, notK, ne_eq, not_false_eq_true, Nat.reduceEqDiff, reduceCtorEq, Bool.not_true, Bool.not_false, true_and, and_true, or_false, if_false, Bool.false_eq_true, hne']
            exact hout _ d hm9 k1 k2 (.inr ⟨by rw [hgot]; exact hZ, k3⟩)
        · intro d k1 k2 k3
          simp only [vc_cond, vc_ret, vcOps_nil, vcOps_cons, vcOps_gate, gateK_false, gate_false, goL_apply, thenQ_normal, blockQ_ret, condP_true, upd_same, upd_other, updO_some, ev_tmp, ev_const, insVc, pickK, notK, ne_eq, not_false_eq_true, Nat.reduceEqDiff, reduceCtorEq, Bool.not_true, Bool.not_false, and_true, if_true]
          exact hout _ d hm9 k1 k2 (.inl k3)
      · rw [if_pos hT] at hgot
        have hne : (T.2 == 0) = false := by simpa using hT
        have hne' : (T.2 != 0) = true := by simpa using hT
        simp only [vc_skip, vc_seq, vc_ops, vcOps_cons, goL_apply, thenQ_normal, condP_false, upd_same, upd_other, updO_some, ev_tmp, insVc, load1K, loadO_cells, loadV_some, loadNK, loadNO_cells, callvK, ne_eq, not_false_eq_true, Nat.reduceEqDiff, Nat.reduceAdd, Nat.reduceLeDiff, List.map_cons, List.map_nil, List.getElem?_cons_zero, List.getElem?_toArray, List.size_toArray, List.length_cons, List.length_nil, true_and, Nat.zero_add, List.extract_toArray, List.extract_eq_take_drop, List.drop_zero, List.take_zero, List.take_succ_cons, Nat.sub_zero, hne, b7, x7]
        refine hyield w7 (ms0, T.2) _ hgot hm7 ?_ ?_
        · intro d k1 k2 k3
          simp only [vc_cond, vc_ret, vcOps_nil, vcOps_cons, vcOps_gate, gateK_true, gate_false, goL_apply, thenQ_normal, blockQ_ret, condP_true, upd_same, upd_other, updO_some, ev_tmp, ev_const, insVc, pickK, loadV_some, iopK, iopV, notK, ne_eq, not_false_eq_true, Nat.reduceEqDiff, reduceCtorEq, Bool.not_true, Bool.not_false, true_and, and_true, or_false, if_false, Bool.false_eq_true, hne']
          exact hout w7 d hm7 k1 k2 (.inr ⟨by rw [hgot]; exact hT, k3⟩)
        · intro d k1 k2 k3
          simp only [vc_cond, vc_ret, vcOps_nil, vcOps_cons, vcOps_gate, gateK_false, gate_false, goL_apply, thenQ_normal, blockQ_ret, condP_true, upd_same, upd_other, updO_some, ev_tmp, ev_const, insVc, pickK, notK, ne_eq, not_false_eq_true, Nat.reduceEqDiff, reduceCtorEq, Bool.not_true, Bool.not_false, and_true, if_true]
          exact hout w7 d hm7 k1 k2 (.inl k3)
    · have hgot : lgot r = (ms0, r.2) := by unfold lgot; rw [if_pos he]
      have hne : (r.2 == 0) = false := by simpa using he
      have hne' : (r.2 != 0) = true := by simpa using he
      simp only [vc_skip, vc_seq, vc_cond, vc_ops, vcOps_nil, vcOps_cons, goL_apply, thenQ_normal, condP_false, upd_same, upd_other, updO_some, ev_tmp, ev_const, insVc, load1K, loadO_cells, loadV_some, loadNK, loadNO_cells, iopK, iopV, callvK, ne_eq, not_false_eq_true, Nat.reduceEqDiff, Nat.reduceAdd, Nat.reduceLeDiff, reduceCtorEq, List.map_cons, List.map_nil, List.getElem?_cons_zero, List.getElem?_toArray, List.size_toArray, List.length_cons, List.length_nil, true_and, or_false, Nat.zero_add, List.extract_toArray, List.extract_eq_take_drop, List.drop_zero, List.take_zero, List.take_succ_cons, Nat.sub_zero, hne, b5, x5]
      refine hyield w5 (ms0, r.2) _ hgot hm5 ?_ ?_
      · intro d k1 k2 k3
        simp only [vc_cond, vc_ret, vcOps_nil, vcOps_cons, vcOps_gate, gateK_true, gate_false, goL_apply, thenQ_normal, blockQ_ret, condP_true, upd_same, upd_other, updO_some, ev_tmp, ev_const, insVc, pickK, loadV_some, iopK, iopV, notK, ne_eq, not_false_eq_true, Nat.reduceEqDiff, reduceCtorEq, Bool.not_true, Bool.not_false, true_and, and_true, or_false, if_false, Bool.false_eq_true, hne']
        exact hout w5 d hm5 k1 k2 (.inr ⟨by rw [hgot]; exact he, k3⟩)
      · intro d k1 k2 k3
        simp only [vc_cond, vc_ret, vcOps_nil, vcOps_cons, vcOps_gate, gateK_false, gate_false, goL_apply, thenQ_normal, blockQ_ret, condP_true, upd_same, upd_other, updO_some, ev_tmp, ev_const, insVc, pickK, notK, ne_eq, not_false_eq_true, Nat.reduceEqDiff, reduceCtorEq, Bool.not_true, Bool.not_false, and_true, if_true]
        exact hout w5 d hm5 k1 k2 (.inl k3)
  · rintro X u ⟨⟨pre, h1, h2⟩, h3, h4⟩ ⟨a1, a2, a3⟩
    have hfin' := fun h => hfin u X (Vc.set u w4.heap.size (.deferred none)) a2 a3 h ((Mod.refl _ _).set (.inr rfl))
    simp only [size_set] at hfin'
    have hlen : (rowsV R).length = R.length := by simp [rowsV]
    rw [hlen, List.drop_length] at h2
    have hl : (rowsV R).length = (msV (rowL R)).length := by rw [h2, hlen]; simp [msV, rowL, h1, hlen]
    simp only [blockQ_normal, endQ_normal, endK, resK, size_set, markO, a1]
    refine hfin' (.inl ?_)
    rw [← hl]; exact h3
  · rintro c X u ⟨rfl, h⟩ ⟨a1, a2, a3⟩
    have hfin' := hfin u X (Vc.set u w4.heap.size (.deferred none)) a2 a3 h ((Mod.refl _ _).set (.inr rfl))
    simp only [size_set] at hfin'
    simp only [exitOf, blockQ_ret, endQ_ret, endK, resK, size_set, markO, a1]
    exact hfin'

end Go.Oct

namespace Go.Oct
open Go Go.Vc Go.VrA Go.VrB Go.VrE
set_option maxRecDepth 100000

/-! ### message.List -/

theorem iter_none (Facts : World → Prop) : IterP Proofs.Tryz.prog 110 [] [] Facts := by
  rintro y ⟨fy, ya, yb, rfl⟩ J Jx w hJ hF hS hSx hy
  refine F110.enter (args := [.func fy ya yb]) (by simp) ?_
  unfold c110 r110
  simp only [vc_skip, endQ_normal, endK, resK, List.length_nil]
  exact ⟨Nat.le_refl _, fun _ => False, fun _ h => h.elim, .inl hJ⟩

def Sto.listRows {σ : Type} (St : Sto σ) (s : σ) (queue : ByteArray) (n : Nat) : List (Ms × Int) :=
  if emptyB (boundsL queue n).1 = true then [] else rowL (St.rng s (boundsL queue n).1 (boundsL queue n).2).1

theorem list_c {σ : Type} (St : Sto σ) (s : σ) (hpr : PureRng St s) (queue : ByteArray) (n : Nat) (m : Int) (w : World) (K : Value → World → Prop) (hAt : St.At s w) (hg : Gl m w) (hs : queue.size < 4294967281) (hn : n < 2 ^ 64)
    (hR : ∀ r ∈ (St.rng s (boundsL queue n).1 (boundsL queue n).2).1, r.1.2.length < 2 ^ 60)
    (h : ∀ w' gf cap, Mod (fun _ => False) w w' → IterP Proofs.Tryz.prog gf cap (msV (St.listRows s queue n)) (fun u => St.At s u ∧ Gl m u ∧ Kept w.heap.size w' u) → K (.func (.func gf) #[] cap.toArray) w') :
    Ok Proofs.Tryz.prog 40 #[.iface St.t St.v, .string queue, .int .u64 n] w K := by
  refine F40.enter (args := [.iface St.t St.v, .string queue, .int .u64 n]) (by simp) ?_
  unfold c40 r40
  simp only [vc_seq, vc_ops, vcOps_nil, vcOps_cons, goL_apply, thenQ_normal, upd_same, upd_other, updO_some, ev_tmp, ev_const, initE_at, insVc, ne_eq, not_false_eq_true, Nat.reduceEqDiff, Option.getD_some, List.map_cons, List.map_nil, List.getElem?_cons_zero, List.getElem?_cons_succ]
  refine bounds_c queue n m w _ hg hs hn ?_
  intro w1 hm1
  unfold Sto.listRows at h
  cases h2 : emptyB (boundsL queue n).1 with
  | true =>
    have h2' : ((boundsL queue n).1.toList == (⟨#[]⟩ : ByteArray).toList) = true := h2
    rw [if_pos h2] at h
    simp only [vc_seq, vc_cond, vc_ret, vc_ops, vcOps_nil, vcOps_cons, goL_apply, thenQ_normal, thenQ_ret, condP_true, upd_same, upd_other, updO_some, ev_tmp, ev_const, ev_func, endQ_ret, endK, resK, packed, insVc, loadV_some, sopK, sopV, extK, ne_eq, not_false_eq_true, Nat.reduceEqDiff, List.getElem?_cons_zero, List.getElem?_cons_succ, List.getElem?_toArray, List.nil_append, h2']
    exact h w1 _ [] hm1 (iter_none _)
  | false =>
    have h2' : ((boundsL queue n).1.toList == (⟨#[]⟩ : ByteArray).toList) = false := h2
    rw [if_neg (by simp [h2])] at h
    simp only [vc_skip, vc_seq, vc_cond, vc_ops, vcOps_nil, vcOps_cons, goL_apply, thenQ_normal, condP_false, upd_same, upd_other, updO_some, ev_tmp, ev_const, initE_at, insVc, loadV_some, sopK, sopV, extK, invK, ne_eq, not_false_eq_true, Nat.reduceEqDiff, reduceCtorEq, Option.getD_some, List.map_cons, List.map_nil, List.getElem?_cons_zero, List.getElem?_cons_succ, List.getElem?_toArray, h2']
    refine hpr (boundsL queue n).1 (boundsL queue n).2 w1 _ (St.keep0 hAt hm1) ?_
    intro w4 gf cap hm4 it
    simp only [vcOps_cons, goL_apply, upd_same, updO_some, ev_tmp, ev_func, insVc, List.map_cons, List.map_nil]
    refine F70.enter (args := [_, _]) (by simp) ?_
    unfold c70 r70
    simp only [vc_seq, vc_ret, vc_ops, vcOps_nil, vcOps_cons, goL_apply, thenQ_normal, upd_same, upd_other, updO_some, ev_tmp, ev_const, endQ_ret, endK, resK, packed, initE_at, insVc, Value.cells, ne_eq, not_false_eq_true, Nat.reduceEqDiff, Option.getD_some, List.map_cons, List.map_nil, List.getElem?_cons_zero, List.getElem?_cons_succ, List.nil_append, size_alloc, size_alloc, Nat.reduceEqDiff]
    have hmR : Mod (fun _ => False) w4 ((w4.alloc (.cells #[.func (.func gf) #[] cap.toArray] 95)).alloc (.cells #[.func (.func 111) #[] #[]] 156)) := ((Mod.refl _ _).alloc _).alloc _
    have z1 := hm1.size
    have z4 := hm4.size
    refine h _ _ [ptr w4.heap.size, ptr (w4.heap.size + 1)] ((hm1.trans hm4).trans hmR) (iterP_mono (rowl_c St s _ gf cap w1.heap.size w4 it w4.heap.size (w4.heap.size + 1) m hR) ?_)
    rintro u ⟨k1, k2, k3⟩
    refine ⟨k1, k2, ?_, k3.at ?_ (by omega), k3.at ?_ (by omega)⟩
    · refine ⟨Nat.le_trans hmR.size k3.1, fun k h1 h2 => ?_⟩
      have := hmR.size
      rw [k3.2 k (by omega) (by omega), hmR.get k h2 id]
    · simp only [if_true, if_false, size_alloc, get_alloc, size_alloc, Nat.left_eq_add, Nat.one_ne_zero]
    · simp only [if_true, if_false, size_alloc, get_alloc, size_alloc, Nat.add_eq_left, Nat.one_ne_zero]
end Go.Oct
