import Derived.Test.YtbkddpckkgbbmaaGreatDoorVpG
set_option linter.unusedSimpArgs false
set_option linter.unusedVariables false
set_option linter.unusedSectionVars false
set_option linter.unnecessarySimpa false
namespace Go.Oct
open Go Go.Vc Go.VrA Go.VrB
set_option maxRecDepth 100000

/-! ### law 22's All -/

def firstE : List (Ms × Int) → Int
  | [] => 0
  | r :: l => if r.2 ≠ 0 then r.2 else firstE l
theorem firstE_app : ∀ (l r : List (Ms × Int)), firstE l = 0 → firstE (l ++ r) = firstE r := by
  intro l
  induction l with
  | nil => intro r _; rfl
  | cons x l ih =>
    intro r h
    simp only [List.cons_append, firstE] at h ⊢
    by_cases hx : x.2 ≠ 0
    · rw [if_pos hx] at h; exact (hx h).elim
    · rw [if_neg hx] at h ⊢; exact ih r h

def msFlat (l : List (Ms × Int)) : List Value := l.flatMap fun r => r.1.cells
theorem own_keep' {w w' : World} {S : Nat → Prop} {B n sz : Nat} {t : TypeId} {v : Value} {xs : List Value} (h : w.ownsRow B t sz v n xs) (hm : Mod S w w') (hS : ∀ k, v.ownBlock = some k → ¬ S k) : w'.ownsRow B t sz v n xs := by
  obtain ⟨h1, h2⟩ := h
  refine ⟨h1, h2.imp id ?_⟩
  rintro ⟨g, cap, cur, rfl, hB, hg, r⟩
  exact ⟨g, cap, cur, rfl, hB, hm.keep hg (hS g rfl), r⟩

theorem info_ms : (Proofs.Tryz.prog.info? 49).map (fun i => (i.zero, i.size, i.bytes)) = some (some (.agg zms), 5, 56) := by kernel_rfl

theorem append_ms (B : Nat) (v : Value) (n : Nat) (xs : List Value) (q : Ms) (w : World) (hown : w.ownsRow B 49 5 v n xs) (hB : B ≤ w.heap.size) (hl : n < 2 ^ 20) (ty : TypeId) :
    ∃ v' w', (Builtin.append_ #[47, 47] ty #[v, .slice (some ⟨w.heap.size, 0, none⟩) 1 1]).run Proofs.Tryz.prog (w.alloc (.cells q.cells.toArray 49)) = .ok v' w' ∧
      w'.ownsRow B 49 5 v' (n + 1) (xs ++ q.cells) ∧ Mod (fun k => v.ownBlock = some k) w w' ∧ (∀ k, v'.ownBlock = some k → v.ownBlock = some k ∨ w.heap.size ≤ k) := by
  obtain ⟨i, hi, hi1, hi2⟩ := info_of info_ms
  have hm1 : Mod (fun _ => False) w (w.alloc (.cells q.cells.toArray 49)) := (Mod.refl _ _).alloc _
  have hown1 := own_keep' hown hm1 (fun _ _ x => x)
  have hsrc : Src Proofs.Tryz.prog 5 47 (.slice (some ⟨w.heap.size, 0, none⟩) 1 1) 1 q.cells (w.alloc (.cells q.cells.toArray 49)) := by
    refine Src.ofSlice _ (e' := 49) (by kernel_rfl) ⟨w.heap.size, 0, none⟩ 1 1 _ (by simp [Ms.cells]) ?_ ?_
    · intro j u hj
      have hgn := get_alloc_new w (.cells q.cells.toArray 49)
      rw [List.getElem?_toArray.symm] at hj
      simp only [World.cell?, Addr.add_lit, Nat.zero_add, hgn]
      exact hj
    · intro u hu
      simp only [Ms.cells, List.mem_cons, List.not_mem_nil, or_false] at hu
      rcases hu with rfl | rfl | rfl | rfl | rfl <;> rfl
  obtain ⟨v', w', hr, ho, hm, hb⟩ := run_append_mine (P := Proofs.Tryz.prog) B 47 47 ty 49 i _ 5 (by kernel_rfl) hi hi1 hi2.1 rfl (by decide) v n _ hown1 _ 1 _ hsrc (by simp [maxLen]; omega) (by rw [hi2.2]; omega) (Nat.le_trans hB hm1.size)
  refine ⟨v', w', hr, ho, (hm1.mono fun _ _ x => x.elim).then hm (fun k _ hk => hk), ?_⟩
  intro k hk
  rcases hb with hb | hb
  · exact .inl (hb ▸ hk)
  · rw [hb] at hk
    have : (w.alloc (.cells q.cells.toArray 49)).heap.size = k := Option.some.inj hk
    rw [size_alloc] at this
    exact .inr (by omega)

theorem v5_plain {w : World} {B n sz : Nat} {t : TypeId} {v : Value} {xs : List Value} (h : w.ownsRow B t sz v n xs) : isPlain v = true := by
  rcases h.2 with ⟨rfl, _⟩ | ⟨g, cap, cur, rfl, _⟩ <;> rfl

theorem all_c (gf : FuncId) (cap : List Value) (L : List (Ms × Int)) (F : World → Prop) (w : World) (K : Value → World → Prop) (it : IterP Proofs.Tryz.prog gf cap (msV L) F) (hL : L.length < 2 ^ 20) (hF : F w)
    (hFs : ∀ S a b, F a → Mod S a b → (∀ k, S k → w.heap.size ≤ k) → F b)
    (h : ∀ w' v, Mod (fun _ => False) w w' → (firstE L = 0 → w'.ownsRow (w.heap.size + 3) 49 5 v L.length (msFlat L)) → (firstE L ≠ 0 → v = .slice none 0 0) → K (.tuple #[v, .int .i64 (firstE L)]) w') :
    Ok Proofs.Tryz.prog 39 #[.func (.func gf) #[] cap.toArray] w K := by
  refine F39.enter (args := [.func (.func gf) #[] cap.toArray]) (by simp) ?_
  unfold c39 r39
  simp only [vc_seq, vc_block, vc_ops, vcOps_nil, vcOps_cons, goL_apply, thenQ_normal, upd_other, updO_some, ev_tmp, initE_at, insVc, Value.cells, ne_eq, not_false_eq_true, Nat.reduceAdd, reduceCtorEq, Option.getD_some, List.getElem?_cons_zero, size_alloc, size_alloc, Nat.add_assoc, Nat.reduceAdd]
  refine vc_gen ?_
  intro w1 hw1
  have hm1 : Mod (fun _ => False) w w1 := by rw [hw1]; exact (((Mod.refl _ _).alloc _).alloc _).alloc _
  have a1 : w1.heap[w.heap.size]? = some (.cells #[.slice none 0 0] 47 (0, 0)) := by rw [hw1]; simp only [Nat.reduceAdd, reduceCtorEq, if_true, if_false, size_alloc, get_alloc, size_alloc, Nat.add_assoc, Nat.reduceAdd, Nat.left_eq_add, Nat.one_ne_zero]
  have b1 : w1.heap[w.heap.size + 1]? = some (.cells #[.int .i64 0] 23 (0, 0)) := by rw [hw1]; simp only [Nat.reduceEqDiff, Nat.reduceAdd, if_true, if_false, size_alloc, get_alloc, size_alloc, Nat.add_assoc, Nat.reduceAdd, Nat.add_left_cancel_iff, Nat.add_eq_left, Nat.reduceEqDiff, Nat.one_ne_zero]
  have o1 : w1.heap[w.heap.size + 2]? = some (.cells #[.slice none 0 0] 47 (0, 0)) := by rw [hw1]; simp only [Nat.reduceEqDiff, Nat.reduceAdd, reduceCtorEq, if_true, if_false, size_alloc, get_alloc, size_alloc, Nat.add_assoc, Nat.reduceAdd, Nat.add_left_cancel_iff, Nat.add_eq_left, Nat.reduceEqDiff]
  have hz1 : w1.heap.size = w.heap.size + 3 := by rw [hw1]; simp only [Nat.reduceAdd, size_alloc, size_alloc, Nat.add_assoc, Nat.reduceAdd]
  clear hw1
  refine range_iter (by kernel_rfl) (by kernel_rfl) (by kernel_rfl) (gf := gf) (cap := cap) (by simp only [upd_same, ev_tmp]) it
    (fun i X u => F u ∧ Mod (fun _ => False) w u ∧ u.heap[w.heap.size]? = some (.cells #[.slice none 0 0] 47 (0, 0)) ∧ u.heap[w.heap.size + 1]? = some (.cells #[.int .i64 0] 23 (0, 0)) ∧ firstE (L.take i) = 0 ∧
      ∃ v, u.heap[w.heap.size + 2]? = some (.cells #[v] 47 (0, 0)) ∧ u.ownsRow (w.heap.size + 3) 49 5 v (L.take i).length (msFlat (L.take i)) ∧ (∀ k, v.ownBlock = some k → ¬ X k))
    (fun c X u => c = .ret ∧ Mod (fun _ => False) w u ∧ u.heap[w.heap.size]? = some (.cells #[.slice none 0 0] 47 (0, 0)) ∧ u.heap[w.heap.size + 1]? = some (.cells #[.int .i64 (firstE L)] 23 (0, 0)) ∧ firstE L ≠ 0) ?_ ?_ ?_ ?_ ?_ ?_ ?_ ?_
  · intro X w' hm hsz hX
    exact ⟨hFs _ _ _ hF (hm1.trans hm) (fun _ x => x.elim), hm1.trans hm, hm.keep a1 id, hm.keep b1 id, rfl, _, hm.keep o1 id, World.ownsRow_nil _ _ _ 5, fun k hk => by cases hk⟩
  · rintro i X u ⟨h1, _⟩
    exact h1
  · rintro i X X' a b ⟨h1, h2, h3, h4, h5, v, h6, h7, h8⟩ hX ha hm hx
    have hge : ∀ k, X k → w.heap.size + 3 ≤ k := fun k hk => by have := hX k hk; omega
    refine ⟨hFs X _ _ h1 hm (fun k hk => by have := hge k hk; omega), h2.then hm (fun i hi hk => by have := hge i hk; omega), hm.keep h3 (fun x => by have := hge _ x; omega), hm.keep h4 (fun x => by have := hge _ x; omega), h5, v, hm.keep h6 (fun x => by have := hge _ x; omega), own_keep' h7 hm h8, ?_⟩
    intro k hk hx'
    rcases hx k hx' with hx' | hx'
    · exact h8 k hk hx'
    · have := (World.ownsRow.lt h7 k hk).2
      omega
  · rintro c X X' a b ⟨rfl, h2, h3, h4, h5⟩ hX ha hm hx
    have hge : ∀ k, X k → w.heap.size + 3 ≤ k := fun k hk => by have := hX k hk; omega
    exact ⟨rfl, h2.then hm (fun i hi hk => by have := hge i hk; omega), hm.keep h3 (fun x => by have := hge _ x; omega), hm.keep h4 (fun x => by have := hge _ x; omega), h5⟩
  · intro i hi
    rw [List.getElem?_eq_getElem hi]
    simp [msV]
  · intro i hi X a ⟨h1, h2, h3, h4, h5, v, h6, h7, h8⟩ hX ha
    obtain ⟨r, hr⟩ : ∃ r, L[i]? = some r := ⟨L[i]'(by simpa [msV] using hi), List.getElem?_eq_getElem _⟩
    have hrow : ((msV L)[i]?.getD []) = [r.1.val, .int .i64 r.2] := by simp [msV, hr]
    have hli : i < L.length := by simpa [msV] using hi
    have htk : L.take (i + 1) = L.take i ++ [r] := by rw [List.take_add_one, hr]; rfl
    have hfe : firstE (L.take (i + 1)) = firstE [r] := by rw [htk]; exact firstE_app _ _ h5
    have hfl : firstE L = firstE (r :: L.drop (i + 1)) := by
      have : L = L.take i ++ (r :: L.drop (i + 1)) := by rw [← List.singleton_append, ← List.append_assoc, ← htk, List.take_append_drop]
      rw [this]
      have h' := firstE_app (L.take i) (r :: L.drop (i + 1)) h5
      rw [h']
      congr 2
      rw [← this]
    rw [hrow]
    simp only [vc_seq, vc_cond, vc_block, vc_ops, vcOps_nil, vcOps_cons, goL_apply, thenQ_normal, upd_same, upd_other, updO_some, updO_none, ev_tmp, ev_const, insVc, loadV_some, storeNK, storeNO_cells, setMany, iopK, iopV, isPlain, Value.cells, ne_eq, not_false_eq_true, Nat.reduceEqDiff, Nat.reduceAdd, Nat.reduceLeDiff, reduceCtorEq, List.size_toArray, List.length_cons, List.length_nil, List.setIfInBounds_toArray, List.set_cons_zero, List.set_cons_succ, true_and, or_false, and_self, Nat.zero_add, Bool.and_true, List.all_toArray', List.all_cons, List.all_nil, get_alloc_new, updMany, Ms.val, Ms.cells]
    refine ⟨((Mod.refl _ _).alloc _).set (.inl (Nat.le_refl _)), ?_⟩
    rintro c hmc ⟨k1, k2, k3, k4, k5, v', k6, k7, k8⟩
    have hxa : ¬ X a.heap.size := fun x => by have := (hX _ x).2; omega
    have pC := hmc.keep (get_set_same _ _ (.cells #[.string r.1.queue, .int .u64 r.1.id, .int .u32 r.1.tries, .int .u64 r.1.expiry, .string r.1.body] 49 (0, 0)) (by rw [size_alloc]; omega)) hxa
    have hge : ∀ k, X k → w.heap.size + 3 ≤ k ∧ k < c.heap.size := fun k hk => by have := hX k hk; have := hmc.size; simp only [size_set, size_alloc] at this; omega
    have l3 := lt_of_get k3
    have l4 := lt_of_get k4
    have l6 := lt_of_get k6
    by_cases hr0 : r.2 = 0
    · have b0 : (r.2 != 0) = false := by simpa using hr0
      have fp := lt_of_get pC
      have hown : c.ownsRow (w.heap.size + 3) 49 5 v' (L.take i).length (msFlat (L.take i)) := k7
      have hli' : (L.take i).length < 2 ^ 20 := by rw [List.length_take]; omega
      obtain ⟨v5, w5, hr5, ho5, hm5, hb5⟩ := append_ms (w.heap.size + 3) v' (L.take i).length _ r.1 c hown (by omega) hli' 47
      have hob : ∀ k, v'.ownBlock = some k → w.heap.size + 3 ≤ k ∧ k < c.heap.size := fun k hk => World.ownsRow.lt k7 k hk
      simp only [vc_skip, vc_ops, vcOps_cons, goL_apply, thenQ_normal, condP_false, upd_same, upd_other, updO_some, ev_tmp, insVc, load1K, loadO_cells, loadV_some, loadNK, loadNO_cells, fillL, buildSK, Value.cells, ne_eq, not_false_eq_true, Nat.reduceEqDiff, Nat.reduceAdd, Nat.reduceLeDiff, List.getElem?_cons_zero, List.getElem?_toArray, List.size_toArray, List.length_cons, List.length_nil, List.zipIdx_cons, List.zipIdx_nil, List.foldl_cons, List.foldl_nil, List.setIfInBounds_toArray, List.set_cons_zero, List.set_cons_succ, List.toList_toArray, true_and, and_self, if_true, Nat.zero_add, List.extract_toArray, List.extract_eq_take_drop, List.drop_zero, List.take_zero, List.take_succ_cons, Nat.sub_zero, b0, k6, pC]
      refine rawK_append rfl rfl rfl (by simp only [upd_same, upd_other, ev_tmp, ne_eq, not_false_eq_true, Nat.reduceEqDiff]; exact hr5) ?_
      have k3' := hm5.keep k3 (fun x => by have := hob _ x; omega)
      have k4' := hm5.keep k4 (fun x => by have := hob _ x; omega)
      have k6' := hm5.keep k6 (fun x => by have := hob _ x; omega)
      have l6' := lt_of_get k6'
      have hms := hm5.size
      have hm6 : Mod (fun k => k = w.heap.size + 2) w5 (Vc.set w5 (w.heap.size + 2) (.cells #[v5] 47 (0, 0))) := (Mod.refl _ _).set (.inr rfl)
      have hm56 : Mod (fun k => v'.ownBlock = some k ∨ k = w.heap.size + 2) c (Vc.set w5 (w.heap.size + 2) (.cells #[v5] 47 (0, 0))) := (hm5.mono fun _ _ x => .inl x).then hm6 (fun k _ hk => .inr hk)
      simp only [vcOps_nil, vcOps_cons, goL_apply, blockQ_normal, upd_same, upd_other, updO_some, updO_none, ev_tmp, insVc, storeK, storeO_cells, isPlain, ne_eq, not_false_eq_true, Nat.reduceEqDiff, Nat.reduceLT, Nat.reduceLeDiff, reduceCtorEq, List.size_toArray, List.length_cons, List.length_nil, List.setIfInBounds_toArray, List.set_cons_zero, true_and, Nat.zero_add, decide_true, decide_false, Bool.and_false, size_set, Nat.lt_add_one, k6']
      refine ⟨v5_plain ho5, ⟨hms, ?_⟩, .inl ⟨hFs _ _ _ k1 hm56 ?_, k2.then hm56 ?_, hm6.keep k3' (by omega), hm6.keep k4' (by omega), ?_, v5, get_set_same _ _ _ l6', ?_, ?_⟩⟩
      · intro k hk
        exact hm56.get k (hge k hk).2 (by rintro (x | x); exact k8 k x hk; have := hge k hk; omega)
      · rintro k (x | x)
        · have := hob k x; omega
        · omega
      · rintro k hk (x | x)
        · have := hob k x; omega
        · omega
      · rw [hfe]; simp [firstE, hr0]
      · refine own_keep' ?_ hm6 ?_
        · rw [htk]
          simpa [msFlat] using ho5
        · intro k hk x
          rcases hb5 k hk with y | y
          · have := hob k y; omega
          · omega
      · intro k hk hx
        rcases hb5 k hk with y | y
        · exact k8 k y hx
        · have := hge k hx; omega
    · have b0 : (r.2 != 0) = true := by simpa using hr0
      have hfL : firstE L = r.2 := by rw [hfl]; unfold firstE; rw [if_pos hr0]
      have hmA : Mod (fun k => k = w.heap.size) c (Vc.set c w.heap.size (.cells #[.slice none 0 0] 47 (0, 0))) := (Mod.refl _ _).set (.inr rfl)
      have k4A := hmA.keep k4 (by omega)
      have hm3 : Mod (fun k => k = w.heap.size ∨ k = w.heap.size + 1) c (Vc.set (Vc.set c w.heap.size (.cells #[.slice none 0 0] 47 (0, 0))) (w.heap.size + 1) (.cells #[.int .i64 r.2] 23 (0, 0))) := ((Mod.refl _ _).set (.inr (.inl rfl))).set (.inr (.inr rfl))
      have hmB : Mod (fun k => k = w.heap.size + 1) (Vc.set c w.heap.size (.cells #[.slice none 0 0] 47 (0, 0))) (Vc.set (Vc.set c w.heap.size (.cells #[.slice none 0 0] 47 (0, 0))) (w.heap.size + 1) (.cells #[.int .i64 r.2] 23 (0, 0))) := (Mod.refl _ _).set (.inr rfl)
      simp only [vc_seq, vc_ret, vc_ops, vcOps_nil, vcOps_cons, goL_apply, thenQ_normal, thenQ_ret, blockQ_ret, condP_true, upd_same, upd_other, updO_some, updO_none, ev_tmp, ev_const, insVc, storeK, storeO_cells, isPlain, ne_eq, not_false_eq_true, Nat.reduceEqDiff, Nat.reduceLT, Nat.reduceLeDiff, reduceCtorEq, List.size_toArray, List.length_cons, List.length_nil, List.setIfInBounds_toArray, List.set_cons_zero, true_and, and_true, and_self, Nat.zero_add, decide_true, decide_false, Bool.and_false, size_set, Nat.lt_add_one, b0, k3, k4A]
      refine ⟨⟨Nat.le_refl _, ?_⟩, .inr ⟨.ret, .inl rfl, rfl, k2.then hm3 (by omega), hmB.keep (get_set_same _ _ _ l3) (by omega), ?_, by rw [hfL]; exact hr0⟩⟩
      · intro k hk
        have := hge k hk
        exact hm3.get k this.2 (by omega)
      · rw [hfL]
        exact get_set_same _ _ _ (lt_of_get k4A)
  · rintro X u ⟨h1, h2, h3, h4, h5, v, h6, h7, h8⟩ ⟨a1, a2, a3⟩
    have hlen : (msV L).length = L.length := by simp [msV]
    rw [hlen, List.take_length] at h5 h7
    have hob : ∀ k, v.ownBlock = some k → w.heap.size + 3 ≤ k ∧ k < u.heap.size := fun k hk => World.ownsRow.lt h7 k hk
    have hmA : Mod (fun k => k = w.heap.size) u (Vc.set u w.heap.size (.cells #[v] 47 (0, 0))) := (Mod.refl _ _).set (.inr rfl)
    have k4A := hmA.keep h4 (by omega)
    have hmB : Mod (fun k => k = w.heap.size + 1) (Vc.set u w.heap.size (.cells #[v] 47 (0, 0))) (Vc.set (Vc.set u w.heap.size (.cells #[v] 47 (0, 0))) (w.heap.size + 1) (.cells #[.int .i64 0] 23 (0, 0))) := (Mod.refl _ _).set (.inr rfl)
    have d2 := hmB.keep (hmA.keep a1 (by omega)) (by omega)
    simp only [vc_seq, vc_ret, vc_ops, vcOps_nil, vcOps_cons, goL_apply, thenQ_normal, blockQ_normal, upd_same, upd_other, updO_some, updO_none, ev_tmp, ev_const, endQ_ret, endK, resK, res1, packed, insVc, load1K, loadO_cells, loadV_some, storeK, storeO_cells, isPlain, ne_eq, not_false_eq_true, Nat.reduceEqDiff, Nat.reduceLT, Nat.reduceLeDiff, List.getElem?_cons_zero, List.getElem?_toArray, List.size_toArray, List.length_cons, List.length_nil, List.setIfInBounds_toArray, List.set_cons_zero, List.nil_append, List.cons_append, true_and, and_self, Nat.zero_add, decide_true, decide_false, Bool.and_false, Nat.lt_add_one, h6, h3, k4A]
    refine ⟨v5_plain h7, ?_⟩
    have a3' := hmB.keep (get_set_same u w.heap.size (.cells #[v] 47 (0, 0)) (lt_of_get h3)) (by omega)
    have b3' : (Vc.set (Vc.set u w.heap.size (.cells #[v] 47 (0, 0))) (w.heap.size + 1) (.cells #[.int .i64 0] 23 (0, 0))).heap[w.heap.size + 1]? = some (.cells #[.int .i64 0] 23 (0, 0)) := get_set_same _ _ _ (lt_of_get k4A)
    have hmAB : Mod (fun k => w.heap.size ≤ k ∧ k < w.heap.size + 3) u (Vc.set (Vc.set u w.heap.size (.cells #[v] 47 (0, 0))) (w.heap.size + 1) (.cells #[.int .i64 0] 23 (0, 0))) := (hmA.mono fun k _ hk => (by omega)).then hmB (fun k _ hk => by omega)
    revert d2 a3' b3' hmAB
    generalize (Vc.set (Vc.set u w.heap.size (.cells #[v] 47 (0, 0))) (w.heap.size + 1) (.cells #[.int .i64 0] 23 (0, 0))) = u2
    intro d2 a3' b3' hmAB
    have hmD : Mod (fun k => k = w1.heap.size) u2 (Vc.set u2 w1.heap.size (.deferred none)) := (Mod.refl _ _).set (.inr rfl)
    simp only [markO, d2, hmD.keep a3' (by omega), hmD.keep b3' (by omega)]
    have hh := h (Vc.set u2 w1.heap.size (.deferred none)) v ((h2.then hmAB (fun i hi hk => by omega)).then hmD (fun i hi hk => by omega)) (fun _ => ?_) (fun x => (x h5).elim)
    · rw [h5] at hh; exact hh
    · refine own_keep' (own_keep' h7 hmAB (fun k hk x => by have := hob k hk; omega)) hmD ?_
      intro k hk x
      subst x
      rcases h7.2 with ⟨rfl, _⟩ | ⟨g, cap, cur, rfl, _, hg, _⟩
      · cases hk
      · have hgk : g = w1.heap.size := Option.some.inj hk
        rw [hgk, a1] at hg
        cases hg
  · rintro c X u ⟨rfl, h2, h3, h4, h5⟩ ⟨a1, a2, a3⟩
    have hmD : Mod (fun k => k = w1.heap.size) u (Vc.set u w1.heap.size (.deferred none)) := (Mod.refl _ _).set (.inr rfl)
    simp only [exitOf, thenQ_ret, blockQ_ret, upd_same, upd_other, endQ_ret, endK, resK, res1, packed, ne_eq, not_false_eq_true, Nat.reduceEqDiff, List.nil_append, List.cons_append, markO, a1, hmD.keep h3 (by omega), hmD.keep h4 (by omega)]
    exact h _ _ (h2.then hmD (fun i hi hk => by omega)) (fun x => (h5 x).elim) (fun _ => rfl)

end Go.Oct

namespace Go.Oct
open Go Go.Vc Go.VrA Go.VrB
set_option maxRecDepth 100000

/-! ### law 22's awake -/

def qm : Ms := ⟨aB, 1, 0, 5, e0⟩
def mkL : List UInt8 := [2, 109, 0, 0, 2, 97, 0, 0, 1, 0, 0, 0, 0, 0, 0, 0, 1]
def tkL : List UInt8 := [2, 101, 0, 0, 1, 0, 0, 0, 0, 0, 0, 0, 5, 2, 97, 0, 0, 1, 0, 0, 0, 0, 0, 0, 0, 1]
theorem messageK_a : messageK aB 1 = (⟨mkL.toArray⟩, 0) := by decide
theorem termK_a : termK 5 aB 1 = (⟨tkL.toArray⟩, 0) := by decide
theorem keysR_qm : keysR qm = (⟨mkL.toArray⟩, ⟨tkL.toArray⟩, 0) := by
  unfold keysR
  simp only [show qm.queue = aB from rfl, show qm.id = 1 from rfl, show qm.expiry = 5 from rfl, messageK_a, termK_a]
  rfl
def MQ : M := [(tkL, []), (mkL, (mbytes qm).data.toList)]
theorem put_two : putM tkL [] (putM mkL (mbytes qm).data.toList []) = MQ := by rfl
theorem under_e : underK ⟨#[101]⟩ [] = (⟨#[2, 101, 0, 0]⟩, ⟨#[2, 101, 0, 1]⟩) := by decide
theorem under_e5 : (underK ⟨#[101]⟩ [num' 5]).1 = ⟨#[2, 101, 0, 0, 1, 0, 0, 0, 0, 0, 0, 0, 5]⟩ := by decide
theorem under_e6 : (underK ⟨#[101]⟩ [num' 6]).1 = ⟨#[2, 101, 0, 0, 1, 0, 0, 0, 0, 0, 0, 0, 6]⟩ := by decide
theorem rng4 : rngM [2, 101, 0, 0] [2, 101, 0, 0, 1, 0, 0, 0, 0, 0, 0, 0, 5] MQ = [] := by rfl
theorem rng5 : rngM [2, 101, 0, 0] [2, 101, 0, 0, 1, 0, 0, 0, 0, 0, 0, 0, 6] MQ = [(tkL, [])] := by rfl
theorem parts_t : partsR ⟨tkL.toArray⟩ = ([str ⟨#[101]⟩, num' 5, str aB, num' 1], 0) := by rfl
theorem parse_t : parseR ⟨tkL.toArray⟩ = ({ th0 with sort := ⟨#[101]⟩, at_ := 5, queue := aB, id := 1 }, 0) := by
  have h : fitsR [num' 5, str aB, num' 1] (shapeR ⟨#[101]⟩) = true := by
    rw [show shapeR ⟨#[101]⟩ = ⟨#[110, 115, 110]⟩ by simp [shapeR, ByteArray.toList_eq]]
    decide
  unfold parseR
  rw [parts_t, if_neg (by simp), parseL_cons, if_neg]
  · simp [thOf, ByteArray.toList_eq, str, num']
  · simp only [str] at h ⊢
    rw [h]; simp
theorem mread_qm : mread aB 1 (mbytes qm) = (qm, 0) := by rfl

theorem madd_new (sb mb : Nat) (h0 : 0 ≠ mb) : (shelf sb mb h0).madd (0, []) qm = (0, (2, MQ)) := by
  have hg : (shelf sb mb h0).get (0, []) ⟨mkL.toArray⟩ = ((⟨#[]⟩, false, 0), (0, [])) := rfl
  have hp1 : (shelf sb mb h0).put (0, []) ⟨mkL.toArray⟩ (mbytes qm) = (0, (1, putM mkL (mbytes qm).data.toList [])) := by
    have e : (shelf sb mb h0).put (0, []) ⟨mkL.toArray⟩ (mbytes qm) = if (⟨mkL.toArray⟩ : ByteArray).size > 255 ∨ (mbytes qm).size > 65536 then (5, (0, [])) else (0, (1, putM mkL (mbytes qm).data.toList [])) := rfl
    rw [e, if_neg (by decide)]
  have hp2 : (shelf sb mb h0).put (1, putM mkL (mbytes qm).data.toList []) ⟨tkL.toArray⟩ ⟨#[]⟩ = (0, (2, MQ)) := by
    have e : (shelf sb mb h0).put (1, putM mkL (mbytes qm).data.toList []) ⟨tkL.toArray⟩ ⟨#[]⟩ = if (⟨tkL.toArray⟩ : ByteArray).size > 255 ∨ (⟨#[]⟩ : ByteArray).size > 65536 then (5, (1, putM mkL (mbytes qm).data.toList [])) else (0, (2, putM tkL [] (putM mkL (mbytes qm).data.toList []))) := rfl
    rw [e, if_neg (by decide), put_two]
  have he : emptyB ⟨tkL.toArray⟩ = false := by simp [emptyB, ByteArray.toList_eq, tkL]
  unfold Sto.madd Sto.mput
  rw [keysR_qm]
  simp only [hg, hp1, he, hp2]
  simp
theorem dueRows4 (sb mb : Nat) (h0 : 0 ≠ mb) : (shelf sb mb h0).dueRows (2, MQ) 4 = [] := by
  unfold Sto.dueRows dueTo
  rw [if_pos (by decide), under_e, under_e5]
  show okRows (rngM [2, 101, 0, 0] [2, 101, 0, 0, 1, 0, 0, 0, 0, 0, 0, 0, 5] MQ) = _
  rw [rng4]; rfl
theorem dueRows5 (sb mb : Nat) (h0 : 0 ≠ mb) : (shelf sb mb h0).dueRows (2, MQ) 5 = [((tkL, []), 0)] := by
  unfold Sto.dueRows dueTo
  rw [if_pos (by decide), under_e, under_e6]
  show okRows (rngM [2, 101, 0, 0] [2, 101, 0, 0, 1, 0, 0, 0, 0, 0, 0, 0, 6] MQ) = _
  rw [rng5]; rfl
theorem get_mq (sb mb : Nat) (h0 : 0 ≠ mb) : (shelf sb mb h0).get (2, MQ) ⟨mkL.toArray⟩ = ((mbytes qm, true, 0), (2, MQ)) := by
  show (((⟨((lookM mkL MQ).getD []).toArray⟩ : ByteArray), (lookM mkL MQ).isSome, (0 : Int)), ((2, MQ) : Nat × M)) = _
  have e : lookM mkL MQ = some (mbytes qm).data.toList := by rfl
  rw [e]
  simp only [Option.getD_some, Option.isSome_some, mk_toList]
theorem dueL5 (sb mb : Nat) (h0 : 0 ≠ mb) : dueL (shelf sb mb h0) (2, MQ) [((tkL, []), 0)] = [(qm, 0)] := by
  have hm : (shelf sb mb h0).mgetR (2, MQ) aB 1 = (qm, 0) := by
    unfold Sto.mgetR mfound
    rw [messageK_a]
    simp only [get_mq]
    simp only [mread_qm]
    simp
  have hd : dgot (shelf sb mb h0) (2, MQ) ((tkL, []), 0) = (qm, 0) := by
    unfold dgot dueG
    simp only [parse_t, hm]
    simp [qm]
  rw [dueL_cons, hd]
  simp [dueL]

theorem awake62_c (m : Int) (w : World) (K : Value → World → Prop) (hg : Gl m w) (h : ∀ w', Mod (fun _ => False) w w' → K (.bool true) w') : Ok Proofs.Tryz.prog 62 #[] w K := by
  refine F62.enter (args := []) (by simp) ?_
  unfold c62 r62
  simp only [vc_seq, vc_ops, vcOps_nil, vcOps_cons, goL_apply, thenQ_normal, updO_some, ev_const, insVc, List.map_nil]
  refine awake_c m w _ hg ?_
  intro w1 hm1
  simp only [vc_ret, vcOps_nil, vcOps_cons, goL_apply, thenQ_normal, upd_same, updO_some, ev_tmp, endQ_ret, endK, resK, packed, insVc, List.nil_append]
  exact h w1 hm1

theorem awake22_c (m : Int) (w : World) (K : Value → World → Prop) (hg : Gl m w) (h : ∀ w', Mod (fun _ => False) w w' → K (.bool true) w') : Ok Proofs.Tryz.prog 20 #[] w K := by
  refine F20.enter (args := []) (by simp) ?_
  unfold c20 r20
  simp only [vc_seq, vc_ops, vcOps_nil, vcOps_cons, goL_apply, thenQ_normal, updO_some, ev_const, insVc, List.map_cons, List.map_nil]
  have h0w : 0 < w.heap.size := World.block_lt_of_cell? w _ hg
  refine new_c [] _ w _ (.inl ⟨rfl, _, rfl⟩) (by simp) (fun _ h => by cases h) ?_
  intro w1 sb mb hm1 hsb hmb hs1
  have h0 : 0 ≠ mb := by omega
  have hs1' : (shelf sb mb h0).At (0, []) w1 := hs1
  have hown : ∀ i, (shelf sb mb h0).own i → w.heap.size ≤ i := fun i hk => by have hk' : i = mb := hk; omega
  simp only [vc_seq, vc_ops, vcOps_nil, vcOps_cons, vcOps_gate, gateK_true, gate_false, goL_apply, thenQ_normal, upd_same, updO_some, ev_tmp, insVc, nilOf, pnilK, Bool.not_false, List.map_nil, if_false, Bool.false_eq_true, Option.isNone_some]
  refine awake62_c m w1 _ (hg.mod hm1 id) ?_
  intro w2 hm2
  have hm12 := hm1.trans hm2
  have hs2 := (shelf sb mb h0).keep0 hs1' hm2
  simp only [vc_skip, vc_seq, vc_cond, vc_ops, vcOps_nil, vcOps_cons, vcOps_gate, gateK_true, gate_false, goL_apply, thenQ_normal, condP_false, upd_same, upd_other, updO_some, ev_tmp, ev_const, insVc, pickK, notK, buildK, fillL, Value.cells, ne_eq, not_false_eq_true, Nat.reduceEqDiff, Nat.reduceAdd, Nat.reduceLeDiff, Bool.not_true, Bool.not_false, List.map_cons, List.map_nil, List.size_toArray, List.length_cons, List.length_nil, List.zipIdx_cons, List.zipIdx_nil, List.foldl_cons, List.foldl_nil, List.setIfInBounds_toArray, List.set_cons_zero, List.set_cons_succ, List.toList_toArray, and_self, if_true, if_false, Bool.false_eq_true, Nat.zero_add, Nat.add_zero]
  refine madd_c (shelf sb mb h0) (0, []) qm m w2 _ hs2 (hg.mod hm12 id) (by decide) (by decide) ⟨by decide, by decide, by decide⟩ (show (0 : Nat) < maxLen by decide) ?_ (by have := hm12.size; omega) ?_
  · rw [keysR_qm]
    show (shelf sb mb h0).fit ((shelf sb mb h0).put (0, []) ⟨mkL.toArray⟩ (mbytes qm)).2
    have e : (shelf sb mb h0).put (0, []) ⟨mkL.toArray⟩ (mbytes qm) = if (⟨mkL.toArray⟩ : ByteArray).size > 255 ∨ (mbytes qm).size > 65536 then (5, (0, [])) else (0, (1, putM mkL (mbytes qm).data.toList [])) := rfl
    rw [e, if_neg (by decide)]
    show (1 : Nat) < maxLen
    decide
  rw [madd_new]
  intro w3 hm3 hs3
  have hm13 : Mod (fun _ => False) w w3 := hm12.then hm3 (fun i hi hk => by have := hown i hk; omega)
  simp only [vc_seq, vc_ops, vcOps_nil, vcOps_cons, goL_apply, thenQ_normal, upd_same, upd_other, updO_some, ev_tmp, ev_const, insVc, ne_eq, not_false_eq_true, Nat.reduceEqDiff, List.map_cons, List.map_nil]
  have hpg := pureGet_shelf sb mb h0 (2, MQ)
  have hpr := pure_shelf sb mb h0 (2, MQ) (show 2 * 16 ≤ 140737488355328 by decide)
  refine due_c (shelf sb mb h0) (2, MQ) hpg hpr 4 m w3 _ hs3 (hg.mod hm13 id) (by decide) (by rw [dueRows4]; intro r hr; cases hr) ?_
  rw [dueRows4]
  intro w4 gf cap hm4 it
  have hm14 := hm13.trans hm4
  have hs4 := (shelf sb mb h0).keep0 hs3 hm4
  simp only [vcOps_cons, goL_apply, upd_same, updO_some, ev_tmp, insVc, List.map_cons, List.map_nil]
  have hkp : ∀ (lo : Nat) (wK : World) (hsK : (shelf sb mb h0).At (2, MQ) wK) (S : Nat → Prop) (a b : World), ((shelf sb mb h0).At (2, MQ) a ∧ Gl m a ∧ Kept lo wK a) → Mod S a b → (∀ k, S k → wK.heap.size ≤ k) → w.heap.size ≤ wK.heap.size → ((shelf sb mb h0).At (2, MQ) b ∧ Gl m b ∧ Kept lo wK b) := by
    rintro lo wK hsK S a b ⟨x1, x2, x3⟩ hm hS hw
    refine ⟨(shelf sb mb h0).keep _ _ a b x1 hm (fun k _ hk hf => ?_), x2.mod hm (fun hk => by have := hS _ hk; omega), x3.keep hm (fun k _ hk hk' => by have := hS k hk'; omega)⟩
    have := (shelf sb mb h0).footLt _ _ k hsK hf
    have := hS k hk
    omega
  refine all_c gf cap _ _ w4 _ it (by simp [dueL]) ⟨hs4, hg.mod hm14 id, Kept.refl _ _⟩ (fun S a b x1 x2 x3 => hkp _ w4 hs4 S a b x1 x2 x3 hm14.size) ?_
  intro w5 v5 hm5 hv5 _
  have hm15 := hm14.trans hm5
  have hs5 := (shelf sb mb h0).keep0 hs4 hm5
  have hE0 : firstE (dueL (shelf sb mb h0) (2, MQ) []) = 0 := rfl
  have ho5 := hv5 hE0
  rw [hE0]
  simp only [vc_seq, vc_ops, vcOps_nil, vcOps_cons, goL_apply, thenQ_normal, upd_same, upd_other, updO_some, ev_tmp, ev_const, insVc, loadV_some, extK, ne_eq, not_false_eq_true, Nat.reduceEqDiff, List.map_cons, List.map_nil, List.getElem?_cons_zero, List.getElem?_cons_succ, List.getElem?_toArray]
  refine due_c (shelf sb mb h0) (2, MQ) hpg hpr 5 m w5 _ hs5 (hg.mod hm15 id) (by decide) ?_ ?_
  · rw [dueRows5]
    intro r hr
    rw [List.mem_singleton.1 hr]
    simp only [parse_t]
    refine ⟨by decide, by decide, ?_⟩
    rw [messageK_a]
    simp only [get_mq]
    decide
  rw [dueRows5, dueL5]
  intro w6 gf6 cap6 hm6 it6
  have hm16 := hm15.trans hm6
  have hs6 := (shelf sb mb h0).keep0 hs5 hm6
  simp only [vcOps_cons, goL_apply, upd_same, updO_some, ev_tmp, insVc, List.map_cons, List.map_nil]
  refine all_c gf6 cap6 _ _ w6 _ it6 (by simp) ⟨hs6, hg.mod hm16 id, Kept.refl _ _⟩ (fun S a b x1 x2 x3 => hkp _ w6 hs6 S a b x1 x2 x3 hm16.size) ?_
  intro w7 v7 hm7 hv7 _
  have hm17 := hm16.trans hm7
  have hE1 : firstE [(qm, (0 : Int))] = 0 := rfl
  have ho7 := hv7 hE1
  rw [hE1]
  have hl5 : ∃ a c, v5 = .slice a 0 c := by
    rcases ho5.2 with ⟨rfl, _⟩ | ⟨g, cap, cur, rfl, _⟩ <;> exact ⟨_, _, rfl⟩
  have hl7 : ∃ a c, v7 = .slice a 1 c := by
    rcases ho7.2 with ⟨_, hx⟩ | ⟨g, cap, cur, rfl, _⟩
    · simp at hx
    · exact ⟨_, _, rfl⟩
  obtain ⟨a5, c5, rfl⟩ := hl5
  obtain ⟨a7, c7, rfl⟩ := hl7
  have z0 : (((0 : Nat) : Int) == 0) = true := rfl
  have z1 : (((1 : Nat) : Int) == 1) = true := rfl
  have z2 : ((0 : Int) == 0) = true := rfl
  simp only [vc_seq, vc_ret, vc_ops, vcOps_nil, vcOps_cons, vcOps_gate, gateK_true, gate_true, goL_apply, thenQ_normal, upd_same, upd_other, updO_some, ev_tmp, ev_const, endQ_ret, endK, resK, packed, insVc, pickK, loadV_some, iopK, iopV, extK, lenLK, ne_eq, not_false_eq_true, Nat.reduceEqDiff, reduceCtorEq, List.getElem?_cons_zero, List.getElem?_cons_succ, List.getElem?_toArray, List.nil_append, true_and, or_false, if_true, z0, z1, z2]
  exact h w7 hm17

end Go.Oct
