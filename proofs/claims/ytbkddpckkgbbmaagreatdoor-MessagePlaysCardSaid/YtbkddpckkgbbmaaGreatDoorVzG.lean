import Derived.Test.YtbkddpckkgbbmaaGreatDoorVzF
import Derived.Test.YtbkddpckkgbbmaaGreatDoorVpI
set_option linter.unusedSimpArgs false
set_option linter.unusedVariables false
set_option linter.unusedSectionVars false
set_option linter.unnecessarySimpa false
namespace Go.Oct
open Go Go.Vc Go.VrA Go.VrB Go.VrE
set_option maxRecDepth 100000

/-! ### message.Count -/

def countR (L : List (Ms × Int)) : Nat × Int := (if firstE L = 0 then L.length else 0, firstE L)

theorem count_c {σ : Type} (St : Sto σ) (s : σ) (hpr : PureRng St s) (queue : ByteArray) (m : Int) (w : World) (K : Value → World → Prop) (hAt : St.At s w) (hg : Gl m w) (h0 : 0 < w.heap.size) (hs : queue.size < 4294967281)
    (hR : ∀ r ∈ (St.rng s (boundsL queue 0).1 (boundsL queue 0).2).1, r.1.2.length < 2 ^ 60) (hL : (St.listRows s queue 0).length < 2 ^ 40)
    (h : ∀ w', Mod (fun _ => False) w w' → K (.tuple #[.int .i64 (countR (St.listRows s queue 0)).1, .int .i64 (countR (St.listRows s queue 0)).2]) w') :
    Ok Proofs.Tryz.prog 41 #[.iface St.t St.v, .string queue] w K := by
  refine F41.enter (args := [.iface St.t St.v, .string queue]) (by simp) ?_
  unfold c41 r41
  simp only [vc_seq, vc_ops, vcOps_nil, vcOps_cons, goL_apply, thenQ_normal, upd_same, upd_other, updO_some, updO_none, ev_tmp, ev_const, initE_at, insVc, storeK, storeO_cells, isPlain, Value.cells, ne_eq, not_false_eq_true, Nat.reduceEqDiff, Nat.reduceAdd, Nat.reduceLT, Nat.reduceLeDiff, reduceCtorEq, Option.getD_some, List.map_cons, List.map_nil, List.getElem?_cons_zero, List.getElem?_cons_succ, List.size_toArray, List.length_cons, List.length_nil, List.setIfInBounds_toArray, List.set_cons_zero, true_and, and_self, if_true, if_false, Nat.zero_add, decide_true, decide_false, Bool.and_false, size_alloc, Nat.lt_add_one, get_alloc, size_alloc, Nat.add_assoc, Nat.reduceAdd, Nat.add_left_cancel_iff, Nat.add_eq_left, Nat.reduceEqDiff, Nat.reduceLT]
  refine callK_gen ?_
  intro w1 hw1
  have hm1 : Mod (fun _ => False) w w1 := by rw [hw1]; exact ((((Mod.refl _ _).alloc _).alloc _).alloc _).set (.inl (by omega))
  have a1 : w1.heap[w.heap.size]? = some (.cells #[.int .i64 0] 3 (0, 0)) := by rw [hw1]; simp only [Nat.reduceAdd, reduceCtorEq, and_true, if_true, if_false, size_alloc, Nat.lt_add_one, get_alloc, get_set, size_alloc, Nat.add_assoc, Nat.reduceAdd, Nat.left_eq_add, Nat.one_ne_zero]
  have b1 : w1.heap[w.heap.size + 1]? = some (.cells #[.int .i64 0] 23 (0, 0)) := by rw [hw1]; simp only [Nat.reduceEqDiff, Nat.reduceAdd, and_true, if_true, if_false, size_alloc, Nat.lt_add_one, get_alloc, get_set, size_alloc, Nat.add_assoc, Nat.reduceAdd, Nat.add_left_cancel_iff, Nat.add_eq_left, Nat.reduceEqDiff, Nat.one_ne_zero]
  have o1 : w1.heap[w.heap.size + 2]? = some (.cells #[.int .i64 0] 3 (0, 0)) := by rw [hw1]; simp only [Nat.reduceAdd, size_alloc, get_set_same, Nat.lt_add_one, size_alloc, Nat.add_assoc, Nat.reduceAdd]
  have hz1 : w1.heap.size = w.heap.size + 3 := by rw [hw1]; simp only [Nat.reduceAdd, size_set, size_alloc, size_alloc, size_set, Nat.add_assoc, Nat.reduceAdd]
  clear hw1
  refine list_c St s hpr queue 0 m w1 _ (St.keep0 hAt hm1) (hg.mod hm1 id) hs (by decide) hR ?_
  intro w2 gf cap hm2 it
  revert h hL it
  generalize St.listRows s queue 0 = L
  intro hL h it
  have hm12 := hm1.trans hm2
  have a2 := hm2.keep a1 id
  have b2 := hm2.keep b1 id
  have o2 := hm2.keep o1 id
  have z2 := hm2.size
  have hfoot : ∀ k, w.heap.size ≤ k → ¬ St.foot k := fun k hk x => by have := St.footLt s w _ hAt x; omega
  obtain ⟨F, hFe⟩ : ∃ F : World → Prop, F = fun u => St.At s u ∧ Gl m u ∧ Kept w1.heap.size w2 u := ⟨_, rfl⟩
  rw [← hFe] at it
  have hF0 : F w2 := by rw [hFe]; exact ⟨St.keep0 hAt hm12, hg.mod hm12 id, Kept.refl _ _⟩
  have hFs : ∀ (S : Nat → Prop) (a b : World), F a → Mod S a b → (∀ k, S k → (w.heap.size ≤ k ∧ k < w.heap.size + 3) ∨ w2.heap.size ≤ k) → F b := by
    rw [hFe]
    rintro S a b ⟨f1, f2, f3⟩ hm hS
    exact ⟨St.keep S _ _ _ f1 hm (fun k _ hk => hfoot k (by have := hS k hk; omega)), f2.mod hm (fun x => by have := hS _ x; omega), f3.keep hm (fun k h1 h2 hk => by have := hS k hk; omega)⟩
  clear hFe
  simp only [vc_block, vcOps_nil, goL_apply, thenQ_normal, updO_some]
  refine range_iter (by kernel_rfl) (by kernel_rfl) (by kernel_rfl) (gf := gf) (cap := cap) (by simp only [upd_same, ev_tmp]) it
    (fun i X u => F u ∧ Mod (fun _ => False) w u ∧ u.heap[w.heap.size]? = some (.cells #[.int .i64 0] 3 (0, 0)) ∧ u.heap[w.heap.size + 1]? = some (.cells #[.int .i64 0] 23 (0, 0)) ∧ firstE (L.take i) = 0 ∧ u.heap[w.heap.size + 2]? = some (.cells #[.int .i64 ((i : Nat) : Int)] 3 (0, 0)))
    (fun c X u => c = .ret ∧ Mod (fun _ => False) w u ∧ u.heap[w.heap.size]? = some (.cells #[.int .i64 0] 3 (0, 0)) ∧ u.heap[w.heap.size + 1]? = some (.cells #[.int .i64 (firstE L)] 23 (0, 0)) ∧ firstE L ≠ 0) ?_ ?_ ?_ ?_ ?_ ?_ ?_ ?_
  · intro X w' hm hsz hX
    exact ⟨hFs _ _ _ hF0 hm (fun _ x => x.elim), hm12.trans hm, hm.keep a2 id, hm.keep b2 id, rfl, hm.keep o2 id⟩
  · rintro i X u ⟨h1, _⟩
    exact h1
  · rintro i X X' a b ⟨h1, h2, h3, h4, h5, h6⟩ hX ha hm hx
    have hge : ∀ k, X k → w2.heap.size ≤ k := fun k hk => by have := hX k hk; omega
    exact ⟨hFs X _ _ h1 hm (fun k hk => .inr (hge k hk)), h2.then hm (fun i hi hk => by have := hge i hk; omega), hm.keep h3 (fun x => by have := hge _ x; omega), hm.keep h4 (fun x => by have := hge _ x; omega), h5, hm.keep h6 (fun x => by have := hge _ x; omega)⟩
  · rintro c X X' a b ⟨rfl, h2, h3, h4, h5⟩ hX ha hm hx
    have hge : ∀ k, X k → w2.heap.size ≤ k := fun k hk => by have := hX k hk; omega
    exact ⟨rfl, h2.then hm (fun i hi hk => by have := hge i hk; omega), hm.keep h3 (fun x => by have := hge _ x; omega), hm.keep h4 (fun x => by have := hge _ x; omega), h5⟩
  · intro i hi
    rw [List.getElem?_eq_getElem hi]
    simp [msV]
  · intro i hi X a ⟨h1, h2, h3, h4, h5, h6⟩ hX ha
    obtain ⟨r, hr⟩ : ∃ r, L[i]? = some r := ⟨L[i]'(by simpa [msV] using hi), List.getElem?_eq_getElem _⟩
    have hrow : ((msV L)[i]?.getD []) = [r.1.val, .int .i64 r.2] := by simp [msV, hr]
    have hli : i < L.length := by simpa [msV] using hi
    have htk : L.take (i + 1) = L.take i ++ [r] := by rw [List.take_add_one, hr]; rfl
    have hfe : firstE (L.take (i + 1)) = firstE [r] := by rw [htk]; exact firstE_app _ _ h5
    have hfl : firstE L = firstE (r :: L.drop (i + 1)) := by
      have : L = L.take i ++ (r :: L.drop (i + 1)) := by rw [← List.singleton_append, ← List.append_assoc, ← htk, List.take_append_drop]
      rw [this]
      have h' := firstE_app (L.take i) (r :: L.drop (i + 1)) h5
      rw [h']
      congr 2
      rw [← this]
    have hwi : IntKind.i64.wrap ((i : Int) + 1) = ((i + 1 : Nat) : Int) := by rw [wrap_i64 _ (by omega)]; omega
    rw [hrow]
    simp only [vc_seq, vc_cond, vc_block, vc_ops, vcOps_nil, vcOps_cons, goL_apply, thenQ_normal, upd_same, updO_some, ev_tmp, ev_const, insVc, loadV_some, iopK, iopV, ne_eq, reduceCtorEq, true_and, or_false, updMany, Ms.val, Ms.cells]
    refine ⟨Mod.refl _ _, ?_⟩
    rintro c hmc ⟨k1, k2, k3, k4, k5, k6⟩
    have hge : ∀ k, X k → w2.heap.size ≤ k ∧ k < c.heap.size := fun k hk => by have := hX k hk; have := hmc.size; omega
    have l3 := lt_of_get k3
    have l4 := lt_of_get k4
    have l6 := lt_of_get k6
    by_cases hr0 : r.2 = 0
    · have b0 : (r.2 != 0) = false := by simpa using hr0
      have hmC : Mod (fun k => k = w.heap.size + 2) c (Vc.set c (w.heap.size + 2) (.cells #[.int .i64 ((i + 1 : Nat) : Int)] 3 (0, 0))) := (Mod.refl _ _).set (.inr rfl)
      simp only [vc_skip, vc_ops, vcOps_nil, vcOps_cons, goL_apply, thenQ_normal, blockQ_normal, condP_false, upd_same, upd_other, updO_some, updO_none, ev_tmp, ev_const, insVc, load1K, loadO_cells, loadV_some, storeK, storeO_cells, iopK, iopV, isPlain, ne_eq, not_false_eq_true, Nat.reduceEqDiff, Nat.reduceLT, Nat.reduceLeDiff, reduceCtorEq, List.getElem?_cons_zero, List.getElem?_toArray, List.size_toArray, List.length_cons, List.length_nil, List.setIfInBounds_toArray, List.set_cons_zero, true_and, or_false, and_self, Nat.zero_add, decide_true, decide_false, Bool.and_false, size_set, Nat.lt_add_one, b0, k6, hwi]
      refine ⟨⟨Nat.le_refl _, ?_⟩, .inl ⟨hFs _ _ _ k1 hmC (fun k hk => .inl (by omega)), k2.then hmC (by omega), hmC.keep k3 (by omega), hmC.keep k4 (by omega), ?_, get_set_same _ _ _ l6⟩⟩
      · intro k hk
        have := hge k hk
        exact hmC.get k this.2 (by omega)
      · rw [hfe]; simp [firstE, hr0]
    · have b0 : (r.2 != 0) = true := by simpa using hr0
      have hfL : firstE L = r.2 := by rw [hfl]; unfold firstE; rw [if_pos hr0]
      have hmA : Mod (fun k => k = w.heap.size) c (Vc.set c w.heap.size (.cells #[.int .i64 0] 3 (0, 0))) := (Mod.refl _ _).set (.inr rfl)
      have k4A := hmA.keep k4 (by omega)
      have hm3 : Mod (fun k => k = w.heap.size ∨ k = w.heap.size + 1) c (Vc.set (Vc.set c w.heap.size (.cells #[.int .i64 0] 3 (0, 0))) (w.heap.size + 1) (.cells #[.int .i64 r.2] 23 (0, 0))) := ((Mod.refl _ _).set (.inr (.inl rfl))).set (.inr (.inr rfl))
      have hmB : Mod (fun k => k = w.heap.size + 1) (Vc.set c w.heap.size (.cells #[.int .i64 0] 3 (0, 0))) (Vc.set (Vc.set c w.heap.size (.cells #[.int .i64 0] 3 (0, 0))) (w.heap.size + 1) (.cells #[.int .i64 r.2] 23 (0, 0))) := (Mod.refl _ _).set (.inr rfl)
      simp only [vc_seq, vc_ret, vc_ops, vcOps_nil, vcOps_cons, goL_apply, thenQ_normal, thenQ_ret, blockQ_ret, condP_true, upd_same, upd_other, updO_some, updO_none, ev_tmp, ev_const, insVc, storeK, storeO_cells, isPlain, ne_eq, not_false_eq_true, Nat.reduceEqDiff, Nat.reduceLT, Nat.reduceLeDiff, reduceCtorEq, List.size_toArray, List.length_cons, List.length_nil, List.setIfInBounds_toArray, List.set_cons_zero, true_and, and_true, and_self, Nat.zero_add, decide_true, decide_false, Bool.and_false, size_set, Nat.lt_add_one, b0, k3, k4A]
      refine ⟨⟨Nat.le_refl _, ?_⟩, .inr ⟨.ret, .inl rfl, rfl, k2.then hm3 (by omega), hmB.keep (get_set_same _ _ _ l3) (by omega), ?_, by rw [hfL]; exact hr0⟩⟩
      · intro k hk
        have := hge k hk
        exact hm3.get k this.2 (by omega)
      · rw [hfL]
        exact get_set_same _ _ _ (lt_of_get k4A)
  · rintro X u ⟨h1, h2, h3, h4, h5, h6⟩ ⟨a1, a2, a3⟩
    have hlen : (msV L).length = L.length := by simp [msV]
    rw [hlen, List.take_length] at h5
    rw [hlen] at h6
    have hmA : Mod (fun k => k = w.heap.size) u (Vc.set u w.heap.size (.cells #[.int .i64 ((L.length : Nat) : Int)] 3 (0, 0))) := (Mod.refl _ _).set (.inr rfl)
    have k4A := hmA.keep h4 (by omega)
    have hmB : Mod (fun k => k = w.heap.size + 1) (Vc.set u w.heap.size (.cells #[.int .i64 ((L.length : Nat) : Int)] 3 (0, 0))) (Vc.set (Vc.set u w.heap.size (.cells #[.int .i64 ((L.length : Nat) : Int)] 3 (0, 0))) (w.heap.size + 1) (.cells #[.int .i64 0] 23 (0, 0))) := (Mod.refl _ _).set (.inr rfl)
    have d2 := hmB.keep (hmA.keep a1 (by omega)) (by omega)
    simp only [vc_seq, vc_ret, vc_ops, vcOps_nil, vcOps_cons, goL_apply, thenQ_normal, blockQ_normal, upd_same, upd_other, updO_some, updO_none, ev_tmp, ev_const, endQ_ret, endK, resK, res1, packed, insVc, load1K, loadO_cells, loadV_some, storeK, storeO_cells, isPlain, ne_eq, not_false_eq_true, Nat.reduceEqDiff, Nat.reduceLT, Nat.reduceLeDiff, List.getElem?_cons_zero, List.getElem?_toArray, List.size_toArray, List.length_cons, List.length_nil, List.setIfInBounds_toArray, List.set_cons_zero, List.nil_append, List.cons_append, true_and, and_self, Nat.zero_add, decide_true, decide_false, Bool.and_false, Nat.lt_add_one, h6, h3, k4A]
    have a3' := hmB.keep (get_set_same u w.heap.size (.cells #[.int .i64 ((L.length : Nat) : Int)] 3 (0, 0)) (lt_of_get h3)) (by omega)
    have b3' : (Vc.set (Vc.set u w.heap.size (.cells #[.int .i64 ((L.length : Nat) : Int)] 3 (0, 0))) (w.heap.size + 1) (.cells #[.int .i64 0] 23 (0, 0))).heap[w.heap.size + 1]? = some (.cells #[.int .i64 0] 23 (0, 0)) := get_set_same _ _ _ (lt_of_get k4A)
    have hmAB : Mod (fun k => w.heap.size ≤ k ∧ k < w.heap.size + 3) u (Vc.set (Vc.set u w.heap.size (.cells #[.int .i64 ((L.length : Nat) : Int)] 3 (0, 0))) (w.heap.size + 1) (.cells #[.int .i64 0] 23 (0, 0))) := (hmA.mono fun k _ hk => (by omega)).then hmB (fun k _ hk => by omega)
    revert d2 a3' b3' hmAB
    generalize (Vc.set (Vc.set u w.heap.size (.cells #[.int .i64 ((L.length : Nat) : Int)] 3 (0, 0))) (w.heap.size + 1) (.cells #[.int .i64 0] 23 (0, 0))) = u2
    intro d2 a3' b3' hmAB
    have hmD : Mod (fun k => k = w2.heap.size) u2 (Vc.set u2 w2.heap.size (.deferred none)) := (Mod.refl _ _).set (.inr rfl)
    simp only [markO, d2, hmD.keep a3' (by omega), hmD.keep b3' (by omega)]
    unfold countR at h
    rw [if_pos h5, h5] at h
    exact h _ ((h2.then hmAB (fun i hi hk => by omega)).then hmD (fun i hi hk => by omega))
  · rintro c X u ⟨rfl, h2, h3, h4, h5⟩ ⟨a1, a2, a3⟩
    have hmD : Mod (fun k => k = w2.heap.size) u (Vc.set u w2.heap.size (.deferred none)) := (Mod.refl _ _).set (.inr rfl)
    simp only [exitOf, thenQ_ret, blockQ_ret, upd_same, upd_other, endQ_ret, endK, resK, res1, packed, ne_eq, not_false_eq_true, Nat.reduceEqDiff, List.nil_append, List.cons_append, markO, a1, hmD.keep h3 (by omega), hmD.keep h4 (by omega)]
    unfold countR at h
    rw [if_neg h5] at h
    exact h _ (h2.then hmD (fun i hi hk => by omega))
end Go.Oct
