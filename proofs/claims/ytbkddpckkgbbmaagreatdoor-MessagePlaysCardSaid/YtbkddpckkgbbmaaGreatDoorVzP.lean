import Derived.Test.YtbkddpckkgbbmaaGreatDoorVzG
import Derived.Test.YtbkddpckkgbbmaaGreatDoorVqG
import Derived.Test.YtbkddpckkgbbmaaGreatDoorVzM
import Derived.Test.YtbkddpckkgbbmaaGreatDoorVqN
set_option linter.unusedSimpArgs false
set_option linter.unusedVariables false
set_option linter.unusedSectionVars false
set_option linter.unnecessarySimpa false
namespace Go.Oct
open Go Go.Vc Go.VrA Go.VrB Go.VrC Go.VrE
set_option maxRecDepth 100000

/-! ### message.Clear -/

def StoC.mcuts {σ : Type} (St : StoC σ) : σ → List Ms → Int × σ
  | s, [] => (0, s)
  | s, q :: l => if (St.mcut s q).1 ≠ 0 then St.mcut s q else St.mcuts (St.mcut s q).2 l
theorem mcuts_cons {σ : Type} (St : StoC σ) (s : σ) (q : Ms) (l : List Ms) : St.mcuts s (q :: l) = if (St.mcut s q).1 ≠ 0 then St.mcut s q else St.mcuts (St.mcut s q).2 l := rfl
def StoC.mclear {σ : Type} (St : StoC σ) (s : σ) (L : List (Ms × Int)) : (Nat × Int) × σ :=
  if firstE L ≠ 0 then ((0, firstE L), s) else
  if (St.mcuts s (L.map (·.1))).1 ≠ 0 then ((0, (St.mcuts s (L.map (·.1))).1), (St.mcuts s (L.map (·.1))).2) else ((L.length, 0), (St.mcuts s (L.map (·.1))).2)

theorem msFlat_map (L : List (Ms × Int)) : msFlat L = (L.map (·.1)).flatMap Ms.cells := by
  unfold msFlat
  rw [List.flatMap_map]

theorem mclear_c {σ : Type} (St : StoC σ) (s : σ) (hpr : PureRng St.toSto s) (queue : ByteArray) (m : Int) (w : World) (K : Value → World → Prop) (hAt : St.At s w) (hg : Gl m w) (h0 : 0 < w.heap.size) (hs : queue.size < 4294967281)
    (hR : ∀ r ∈ (St.rng s (boundsL queue 0).1 (boundsL queue 0).2).1, r.1.2.length < 2 ^ 60) (hL : (St.listRows s queue 0).length < 2 ^ 20)
    (hx : ∀ r ∈ St.listRows s queue 0, r.1.queue.size < 4294967281 ∧ r.1.id < 2 ^ 64 ∧ r.1.expiry < 2 ^ 64)
    (h : ∀ w', Mod St.own w w' → St.At (St.mclear s (St.listRows s queue 0)).2 w' → K (.tuple #[.int .i64 (St.mclear s (St.listRows s queue 0)).1.1, .int .i64 (St.mclear s (St.listRows s queue 0)).1.2]) w') :
    Ok Proofs.Tryz.prog 99 #[.iface St.t St.v, .string queue] w K := by
  refine F99.enter (args := [.iface St.t St.v, .string queue]) (by simp) ?_
  unfold c99 r99
  simp only [vc_seq, vc_ops, vcOps_nil, vcOps_cons, goL_apply, thenQ_normal, upd_same, upd_other, updO_some, ev_tmp, ev_const, initE_at, insVc, Value.cells, ne_eq, not_false_eq_true, Nat.reduceEqDiff, Nat.reduceAdd, reduceCtorEq, Option.getD_some, List.map_cons, List.map_nil, List.getElem?_cons_zero, List.getElem?_cons_succ, size_alloc, size_alloc, Nat.add_assoc, Nat.reduceAdd, Nat.reduceEqDiff]
  refine callK_gen ?_
  intro w1 hw1
  have hm1 : Mod (fun _ => False) w w1 := by rw [hw1]; exact (((Mod.refl _ _).alloc _).alloc _).alloc _
  have a1 : w1.heap[w.heap.size]? = some (.cells #[.int .i64 0] 3 (0, 0)) := by rw [hw1]; simp only [Nat.reduceAdd, reduceCtorEq, if_true, if_false, size_alloc, get_alloc, size_alloc, Nat.add_assoc, Nat.reduceAdd, Nat.left_eq_add, Nat.one_ne_zero]
  have b1 : w1.heap[w.heap.size + 1]? = some (.cells #[.int .i64 0] 23 (0, 0)) := by rw [hw1]; simp only [Nat.reduceEqDiff, Nat.reduceAdd, if_true, if_false, size_alloc, get_alloc, size_alloc, Nat.add_assoc, Nat.reduceAdd, Nat.add_left_cancel_iff, Nat.add_eq_left, Nat.reduceEqDiff, Nat.one_ne_zero]
  have o1 : w1.heap[w.heap.size + 2]? = some (.cells #[.slice none 0 0] 47 (0, 0)) := by rw [hw1]; simp only [Nat.reduceEqDiff, Nat.reduceAdd, reduceCtorEq, if_true, if_false, size_alloc, get_alloc, size_alloc, Nat.add_assoc, Nat.reduceAdd, Nat.add_left_cancel_iff, Nat.add_eq_left, Nat.reduceEqDiff]
  have hz1 : w1.heap.size = w.heap.size + 3 := by rw [hw1]; simp only [Nat.reduceAdd, size_alloc, size_alloc, Nat.add_assoc, Nat.reduceAdd]
  clear hw1
  refine list_c St.toSto s hpr queue 0 m w1 _ (St.keep0 hAt hm1) (hg.mod hm1 id) hs (by decide) hR ?_
  intro w2 gf cap hm2 it
  revert h hL hx it
  generalize St.listRows s queue 0 = L
  intro hL hx h it
  have hm12 := hm1.trans hm2
  have a2 := hm2.keep a1 id
  have b2 := hm2.keep b1 id
  have o2 := hm2.keep o1 id
  have z2 := hm2.size
  have hfoot : ∀ k, w.heap.size ≤ k → ¬ St.foot k := fun k hk x => by have := St.footLt s w _ hAt x; omega
  have hno : ∀ k, w.heap.size ≤ k → ¬ St.own k := fun k hk x => hfoot k hk (St.ownFoot _ x)
  obtain ⟨F, hFe⟩ : ∃ F : World → Prop, F = fun u => St.At s u ∧ Gl m u ∧ Kept w1.heap.size w2 u := ⟨_, rfl⟩
  rw [← hFe] at it
  have hF0 : F w2 := by rw [hFe]; exact ⟨St.keep0 hAt hm12, hg.mod hm12 id, Kept.refl _ _⟩
  have hFA : ∀ u, F u → St.At s u := by rw [hFe]; exact fun u x => x.1
  have hFs : ∀ (S : Nat → Prop) (a b : World), F a → Mod S a b → (∀ k, S k → (w.heap.size ≤ k ∧ k < w.heap.size + 3) ∨ w2.heap.size ≤ k) → F b := by
    rw [hFe]
    rintro S a b ⟨f1, f2, f3⟩ hm hS
    exact ⟨St.keep S _ _ _ f1 hm (fun k _ hk => hfoot k (by have := hS k hk; omega)), f2.mod hm (fun x => by have := hS _ x; omega), f3.keep hm (fun k h1 h2 hk => by have := hS k hk; omega)⟩
  clear hFe
  simp only [vc_block, vcOps_nil, goL_apply, thenQ_normal, updO_some]
  refine range_iter (by kernel_rfl) (by kernel_rfl) (by kernel_rfl) (gf := gf) (cap := cap) (by simp only [upd_same, ev_tmp]) it
    (fun i X u => F u ∧ Mod (fun _ => False) w u ∧ u.heap[w.heap.size]? = some (.cells #[.int .i64 0] 3 (0, 0)) ∧ u.heap[w.heap.size + 1]? = some (.cells #[.int .i64 0] 23 (0, 0)) ∧ firstE (L.take i) = 0 ∧
      ∃ v, u.heap[w.heap.size + 2]? = some (.cells #[v] 47 (0, 0)) ∧ u.ownsRow w2.heap.size 49 5 v (L.take i).length (msFlat (L.take i)) ∧ (∀ k, v.ownBlock = some k → ¬ X k))
    (fun c X u => c = .ret ∧ St.At s u ∧ Mod (fun _ => False) w u ∧ u.heap[w.heap.size]? = some (.cells #[.int .i64 0] 3 (0, 0)) ∧ u.heap[w.heap.size + 1]? = some (.cells #[.int .i64 (firstE L)] 23 (0, 0)) ∧ firstE L ≠ 0) ?_ ?_ ?_ ?_ ?_ ?_ ?_ ?_
  · intro X w' hm hsz hX
    exact ⟨hFs _ _ _ hF0 hm (fun _ x => x.elim), hm12.trans hm, hm.keep a2 id, hm.keep b2 id, rfl, _, hm.keep o2 id, World.ownsRow_nil _ _ _ 5, fun k hk => by cases hk⟩
  · rintro i X u ⟨h1, _⟩
    exact h1
  · rintro i X X' a b ⟨h1, h2, h3, h4, h5, v, h6, h7, h8⟩ hX ha hm hxx
    have hge : ∀ k, X k → w2.heap.size ≤ k := fun k hk => by have := hX k hk; omega
    refine ⟨hFs X _ _ h1 hm (fun k hk => .inr (hge k hk)), h2.then hm (fun i hi hk => by have := hge i hk; omega), hm.keep h3 (fun x => by have := hge _ x; omega), hm.keep h4 (fun x => by have := hge _ x; omega), h5, v, hm.keep h6 (fun x => by have := hge _ x; omega), own_keep' h7 hm h8, ?_⟩
    intro k hk hx'
    rcases hxx k hx' with hx' | hx'
    · exact h8 k hk hx'
    · have := (World.ownsRow.lt h7 k hk).2
      omega
  · rintro c X X' a b ⟨rfl, h1, h2, h3, h4, h5⟩ hX ha hm hxx
    have hge : ∀ k, X k → w2.heap.size ≤ k := fun k hk => by have := hX k hk; omega
    exact ⟨rfl, St.keep X _ _ _ h1 hm (fun k _ hk => hfoot k (by have := hge k hk; omega)), h2.then hm (fun i hi hk => by have := hge i hk; omega), hm.keep h3 (fun x => by have := hge _ x; omega), hm.keep h4 (fun x => by have := hge _ x; omega), h5⟩
  · intro i hi
    rw [List.getElem?_eq_getElem hi]
    simp [msV]
  · intro i hi X a ⟨h1, h2, h3, h4, h5, v, h6, h7, h8⟩ hX ha
    obtain ⟨r, hr⟩ : ∃ r, L[i]? = some r := ⟨L[i]'(by simpa [msV] using hi), List.getElem?_eq_getElem _⟩
    have hrow : ((msV L)[i]?.getD []) = [r.1.val, .int .i64 r.2] := by simp [msV, hr]
    have hli : i < L.length := by simpa [msV] using hi
    have htk : L.take (i + 1) = L.take i ++ [r] := by rw [List.take_add_one, hr]; rfl
    have hfe : firstE (L.take (i + 1)) = firstE [r] := by rw [htk]; exact firstE_app _ _ h5
    have hfl : firstE L = firstE (r :: L.drop (i + 1)) := by
      have : L = L.take i ++ (r :: L.drop (i + 1)) := by rw [← List.singleton_append, ← List.append_assoc, ← htk, List.take_append_drop]
      rw [this]
      have h' := firstE_app (L.take i) (r :: L.drop (i + 1)) h5
      rw [h']
      congr 2
      rw [← this]
    rw [hrow]
    simp only [vc_seq, vc_cond, vc_block, vc_ops, vcOps_nil, vcOps_cons, goL_apply, thenQ_normal, upd_same, upd_other, updO_some, updO_none, ev_tmp, ev_const, insVc, loadV_some, storeNK, storeNO_cells, setMany, iopK, iopV, isPlain, Value.cells, ne_eq, not_false_eq_true, Nat.reduceEqDiff, Nat.reduceAdd, Nat.reduceLeDiff, reduceCtorEq, List.size_toArray, List.length_cons, List.length_nil, List.setIfInBounds_toArray, List.set_cons_zero, List.set_cons_succ, true_and, or_false, and_self, Nat.zero_add, Bool.and_true, List.all_toArray', List.all_cons, List.all_nil, get_alloc_new, updMany, Ms.val, Ms.cells]
    refine ⟨((Mod.refl _ _).alloc _).set (.inl (Nat.le_refl _)), ?_⟩
    rintro c hmc ⟨k1, k2, k3, k4, k5, v', k6, k7, k8⟩
    have hxa : ¬ X a.heap.size := fun x => by have := (hX _ x).2; omega
    have pC := hmc.keep (get_set_same _ _ (.cells #[.string r.1.queue, .int .u64 r.1.id, .int .u32 r.1.tries, .int .u64 r.1.expiry, .string r.1.body] 49 (0, 0)) (by rw [size_alloc]; omega)) hxa
    have hge : ∀ k, X k → w2.heap.size ≤ k ∧ k < c.heap.size := fun k hk => by have := hX k hk; have := hmc.size; simp only [size_set, size_alloc] at this; omega
    have l3 := lt_of_get k3
    have l4 := lt_of_get k4
    have l6 := lt_of_get k6
    have hzc : w2.heap.size ≤ c.heap.size := by have := hmc.size; simp only [size_set, size_alloc] at this; omega
    by_cases hr0 : r.2 = 0
    · have b0 : (r.2 != 0) = false := by simpa using hr0
      have fp := lt_of_get pC
      have hown : c.ownsRow w2.heap.size 49 5 v' (L.take i).length (msFlat (L.take i)) := k7
      have hli' : (L.take i).length < 2 ^ 20 := by rw [List.length_take]; omega
      obtain ⟨v5, w5, hr5, ho5, hm5, hb5⟩ := append_ms w2.heap.size v' (L.take i).length _ r.1 c hown hzc hli' 47
      have hob : ∀ k, v'.ownBlock = some k → w2.heap.size ≤ k ∧ k < c.heap.size := fun k hk => World.ownsRow.lt k7 k hk
      simp only [vc_skip, vc_ops, vcOps_cons, goL_apply, thenQ_normal, condP_false, upd_same, upd_other, updO_some, ev_tmp, insVc, load1K, loadO_cells, loadV_some, loadNK, loadNO_cells, fillL, buildSK, Value.cells, ne_eq, not_false_eq_true, Nat.reduceEqDiff, Nat.reduceAdd, Nat.reduceLeDiff, List.getElem?_cons_zero, List.getElem?_toArray, List.size_toArray, List.length_cons, List.length_nil, List.zipIdx_cons, List.zipIdx_nil, List.foldl_cons, List.foldl_nil, List.setIfInBounds_toArray, List.set_cons_zero, List.set_cons_succ, List.toList_toArray, true_and, and_self, if_true, Nat.zero_add, List.extract_toArray, List.extract_eq_take_drop, List.drop_zero, List.take_zero, List.take_succ_cons, Nat.sub_zero, b0, k6, pC]
      refine rawK_append rfl rfl rfl (by simp only [upd_same, upd_other, ev_tmp, ne_eq, not_false_eq_true, Nat.reduceEqDiff]; exact hr5) ?_
      have k3' := hm5.keep k3 (fun x => by have := hob _ x; omega)
      have k4' := hm5.keep k4 (fun x => by have := hob _ x; omega)
      have k6' := hm5.keep k6 (fun x => by have := hob _ x; omega)
      have l6' := lt_of_get k6'
      have hms := hm5.size
      have hm6 : Mod (fun k => k = w.heap.size + 2) w5 (Vc.set w5 (w.heap.size + 2) (.cells #[v5] 47 (0, 0))) := (Mod.refl _ _).set (.inr rfl)
      have hm56 : Mod (fun k => v'.ownBlock = some k ∨ k = w.heap.size + 2) c (Vc.set w5 (w.heap.size + 2) (.cells #[v5] 47 (0, 0))) := (hm5.mono fun _ _ x => .inl x).then hm6 (fun k _ hk => .inr hk)
      simp only [vcOps_nil, vcOps_cons, goL_apply, blockQ_normal, upd_same, upd_other, updO_some, updO_none, ev_tmp, insVc, storeK, storeO_cells, isPlain, ne_eq, not_false_eq_true, Nat.reduceEqDiff, Nat.reduceLT, Nat.reduceLeDiff, reduceCtorEq, List.size_toArray, List.length_cons, List.length_nil, List.setIfInBounds_toArray, List.set_cons_zero, true_and, Nat.zero_add, decide_true, decide_false, Bool.and_false, size_set, Nat.lt_add_one, k6']
      refine ⟨v5_plain ho5, ⟨hms, ?_⟩, .inl ⟨hFs _ _ _ k1 hm56 ?_, k2.then hm56 ?_, hm6.keep k3' (by omega), hm6.keep k4' (by omega), ?_, v5, get_set_same _ _ _ l6', ?_, ?_⟩⟩
      · intro k hk
        exact hm56.get k (hge k hk).2 (by rintro (x | x); exact k8 k x hk; have := hge k hk; omega)
      · rintro k (x | x)
        · have := hob k x; omega
        · omega
      · rintro k hk (x | x)
        · have := hob k x; omega
        · omega
      · rw [hfe]; simp [firstE, hr0]
      · refine own_keep' ?_ hm6 ?_
        · rw [htk]
          simpa [msFlat] using ho5
        · intro k hk x
          rcases hb5 k hk with y | y
          · have := hob k y; omega
          · omega
      · intro k hk hxk
        rcases hb5 k hk with y | y
        · exact k8 k y hxk
        · have := hge k hxk; omega
    · have b0 : (r.2 != 0) = true := by simpa using hr0
      have hfL : firstE L = r.2 := by rw [hfl]; unfold firstE; rw [if_pos hr0]
      have hmA : Mod (fun k => k = w.heap.size) c (Vc.set c w.heap.size (.cells #[.int .i64 0] 3 (0, 0))) := (Mod.refl _ _).set (.inr rfl)
      have k4A := hmA.keep k4 (by omega)
      have hm3 : Mod (fun k => k = w.heap.size ∨ k = w.heap.size + 1) c (Vc.set (Vc.set c w.heap.size (.cells #[.int .i64 0] 3 (0, 0))) (w.heap.size + 1) (.cells #[.int .i64 r.2] 23 (0, 0))) := ((Mod.refl _ _).set (.inr (.inl rfl))).set (.inr (.inr rfl))
      have hmB : Mod (fun k => k = w.heap.size + 1) (Vc.set c w.heap.size (.cells #[.int .i64 0] 3 (0, 0))) (Vc.set (Vc.set c w.heap.size (.cells #[.int .i64 0] 3 (0, 0))) (w.heap.size + 1) (.cells #[.int .i64 r.2] 23 (0, 0))) := (Mod.refl _ _).set (.inr rfl)
      simp only [vc_seq, vc_ret, vc_ops, vcOps_nil, vcOps_cons, goL_apply, thenQ_normal, thenQ_ret, blockQ_ret, condP_true, upd_same, upd_other, updO_some, updO_none, ev_tmp, ev_const, insVc, storeK, storeO_cells, isPlain, ne_eq, not_false_eq_true, Nat.reduceEqDiff, Nat.reduceLT, Nat.reduceLeDiff, reduceCtorEq, List.size_toArray, List.length_cons, List.length_nil, List.setIfInBounds_toArray, List.set_cons_zero, true_and, and_true, and_self, Nat.zero_add, decide_true, decide_false, Bool.and_false, size_set, Nat.lt_add_one, b0, k3, k4A]
      refine ⟨⟨Nat.le_refl _, ?_⟩, .inr ⟨.ret, .inl rfl, rfl, St.keep _ _ _ _ (hFA _ k1) hm3 (fun k _ hk => hfoot k (by omega)), k2.then hm3 (by omega), hmB.keep (get_set_same _ _ _ l3) (by omega), ?_, by rw [hfL]; exact hr0⟩⟩
      · intro k hk
        have := hge k hk
        exact hm3.get k this.2 (by omega)
      · rw [hfL]
        exact get_set_same _ _ _ (lt_of_get k4A)
  · rintro X u ⟨h1, h2, h3, h4, h5, v, h6, h7, h8⟩ ⟨d1, d2, d3⟩
    have hlen : (msV L).length = L.length := by simp [msV]
    rw [hlen, List.take_length] at h5 h7
    have hob : ∀ k, v.ownBlock = some k → w2.heap.size ≤ k ∧ k < u.heap.size := fun k hk => World.ownsRow.lt h7 k hk
    have hvD : ∀ k, v.ownBlock = some k → k ≠ w2.heap.size := by
      intro k hk e
      subst e
      rcases h7.2 with ⟨rfl, _⟩ | ⟨g, cap, cur, rfl, _, hgg, _⟩
      · cases hk
      · have : g = w2.heap.size := Option.some.inj hk
        rw [this, d1] at hgg; cases hgg
    rw [msFlat_map] at h7
    have hlm : L.length = (L.map (·.1)).length := by simp
    rw [hlm] at h7
    have hbx := IsBx.own h7
    unfold StoC.mclear at h
    rw [if_neg (by simpa using h5)] at h
    revert h hbx hx
    rw [hlm] at hL
    intro hx h hbx
    have hx' : ∀ q ∈ L.map (·.1), q.queue.size < 4294967281 ∧ q.id < 2 ^ 64 ∧ q.expiry < 2 ^ 64 := by
      intro q hq
      obtain ⟨r, hr, rfl⟩ := List.mem_map.1 hq
      exact hx r hr
    rw [hlm] at h
    revert hL
    revert hx'
    revert h
    revert hbx
    clear hx
    generalize L.map (·.1) = Q
    intro hbx h hx' hL
    obtain ⟨⟨a, cp, rfl⟩, hat⟩ := hbx
    simp only [vc_seq, vc_block, vc_ops, vcOps_nil, vcOps_cons, goL_apply, thenQ_normal, blockQ_normal, upd_same, upd_other, updO_some, ev_tmp, ev_const, insVc, load1K, loadO_cells, loadV_some, lenLK, ne_eq, not_false_eq_true, Nat.reduceEqDiff, List.getElem?_cons_zero, List.getElem?_toArray, h6]
    have hAu := hFA u h1
    refine vc_loop (fun mm ρ ds z => ∃ i si, i ≤ Q.length ∧ mm = Q.length - i ∧ ds = [markD w2.heap.size] ∧ ρ 0 = .iface St.t St.v ∧ ρ 4 = .pointer (some ⟨w.heap.size, 0, none⟩) ∧ ρ 5 = .pointer (some ⟨w.heap.size + 1, 0, none⟩) ∧ ρ 6 = .pointer (some ⟨w.heap.size + 2, 0, none⟩) ∧
      ρ 24 = .slice a Q.length cp ∧ ρ 25 = .int .i64 Q.length ∧ ρ 26 = .int .i64 i ∧ Mod St.own u z ∧ St.At si z ∧ St.mcuts s Q = St.mcuts si (Q.drop i)) (Q.length - 0) ?_ ?_
    · exact ⟨0, s, Nat.zero_le _, rfl, rfl, by simp only [upd_other, initE_at, ne_eq, not_false_eq_true, reduceCtorEq, Option.getD_some, List.getElem?_cons_zero], by simp only [upd_same, upd_other, ne_eq, not_false_eq_true, Nat.reduceEqDiff], by simp only [upd_same, upd_other, ne_eq, not_false_eq_true, Nat.reduceEqDiff], by simp only [upd_same, upd_other, ne_eq, not_false_eq_true, Nat.reduceEqDiff], by simp only [upd_same, upd_other, ne_eq, not_false_eq_true, Nat.reduceEqDiff], by simp only [upd_same, upd_other, ne_eq, not_false_eq_true, Nat.reduceEqDiff], by simp only [upd_same]; rfl, Mod.refl _ _, hAu, by simp⟩
    · rintro mm ρ ds z ⟨i, si, hi, rfl, rfl, r0, r4', r5', r6', r24, r25, r26, hmz, hAz, hcut⟩
      have z3 := hmz.keep h3 (hno _ (Nat.le_refl _))
      have z4 := hmz.keep h4 (hno _ (by omega))
      have z6 := hmz.keep h6 (hno _ (by omega))
      have zd := hmz.keep d1 (hno _ (by omega))
      have hmwz : Mod St.own w z := (h2.mono fun _ _ x => x.elim).trans hmz
      by_cases c1 : i < Q.length
      · have e1 : (i : Int) < ((Q.length : Nat) : Int) := by omega
        obtain ⟨q, hqi⟩ : ∃ q, Q[i]? = some q := ⟨Q[i], List.getElem?_eq_getElem c1⟩
        obtain ⟨b, o, c, cur, t, f, he, hb, hsz, hex⟩ := hat i q hqi
        have ha' : a = some ⟨b, o, none⟩ := by simpa using congrArg (fun x => match x with | .slice a _ _ => a | _ => none) he
        subst ha'
        have hbw := hob b rfl
        have hbz := hmz.keep hb (hno _ (by omega))
        rw [Nat.add_assoc] at hsz hex
        have hi0 : (0 : Int) ≤ (i : Int) ∧ (i : Int) < ((Q.length : Nat) : Int) := by omega
        have hw1 : IntKind.i64.wrap ((i : Int) + 1) = ((i + 1 : Nat) : Int) := by rw [wrap_i64 _ (by omega)]; omega
        have hdrop : Q.drop i = q :: Q.drop (i + 1) := List.drop_eq_getElem?_toList_append.trans (by rw [hqi]; rfl)
        obtain ⟨x1, x2, x3⟩ := hx' q (List.mem_of_getElem? hqi)
        rw [hdrop, mcuts_cons] at hcut
        obtain ⟨z1, hz1'⟩ : ∃ z1, z1 = Vc.set (z.alloc (.cells #[.string ⟨#[]⟩, .int .u64 0, .int .u32 0, .int .u64 0, .string ⟨#[]⟩] 49)) z.heap.size (.cells #[.string q.queue, .int .u64 q.id, .int .u32 q.tries, .int .u64 q.expiry, .string q.body] 49) := ⟨_, rfl⟩
        have hmz1 : Mod (fun _ => False) z z1 := by rw [hz1']; exact ((Mod.refl _ _).alloc _).set (.inl (Nat.le_refl _))
        have px1 : z1.heap[z.heap.size]? = some (.cells #[.string q.queue, .int .u64 q.id, .int .u32 q.tries, .int .u64 q.expiry, .string q.body] 49 (0, 0)) := by rw [hz1']; exact get_set_same _ _ _ (by simp only [size_alloc]; omega)
        simp only [vc_skip, vc_seq, vc_cond, vc_block, vc_ops, vcOps_nil, vcOps_cons, goL_apply, thenQ_normal, condP_true, upd_same, upd_other, updO_some, updO_none, ev_tmp, insVc, loadV_some, loadNK, loadNO_cells, storeNK, storeNO_cells, setMany, iopK, iopV, iaddrK, isPlain, Value.cells, ne_eq, not_false_eq_true, Nat.reduceEqDiff, Nat.reduceAdd, Nat.reduceLeDiff, reduceCtorEq, List.map_cons, List.map_nil, List.size_toArray, List.length_cons, List.length_nil, List.setIfInBounds_toArray, List.set_cons_zero, List.set_cons_succ, true_and, or_false, and_self, if_true, Nat.zero_add, decide_true, Bool.and_true, Int.toNat_natCast, List.extract_toArray, List.extract_eq_take_drop, List.drop_zero, List.take_zero, List.take_succ_cons, Nat.sub_zero, List.all_toArray', List.all_cons, List.all_nil, size_alloc, get_set_same, Nat.lt_add_one, get_alloc, size_alloc, Nat.add_assoc, Nat.reduceAdd, Nat.reduceEqDiff, r0, r24, r25, r26, e1, hi0, hbz, hsz, hex, Ms.cells]
        rw [← hz1']
        refine mcut_c St si q m z1 _ (St.keep0 hAz hmz1) (hg.mod ((hmwz.trans (hmz1.mono fun _ _ x => x.elim))) St.own0) x1 x2 x3 ?_
        intro z2' hm2' hA2'
        have hmz2 : Mod St.own z z2' := (hmz1.mono fun _ _ x => x.elim).trans hm2'
        by_cases hc0 : (St.mcut si q).1 = 0
        · have b0 : ((St.mcut si q).1 != 0) = false := by simpa using hc0
          rw [if_neg (by simpa using hc0)] at hcut
          simp only [vc_skip, vc_seq, vc_cond, vc_ops, vcOps_nil, vcOps_cons, goL_apply, thenQ_normal, blockQ_normal, condP_false, upd_same, upd_other, updO_some, ev_tmp, ev_const, insVc, loadV_some, iopK, iopV, ne_eq, not_false_eq_true, Nat.reduceEqDiff, reduceCtorEq, true_and, or_false, b0, r0, r4', r5', r6', r24, r25, r26, hw1]
          exact ⟨Q.length - (i + 1), by omega, i + 1, (St.mcut si q).2, by omega, rfl, rfl, hmz.trans hmz2, hA2', hcut⟩
        · have b0 : ((St.mcut si q).1 != 0) = true := by simpa using hc0
          rw [if_pos hc0] at hcut
          rw [hcut, if_pos hc0] at h
          have y3 := hmz2.keep z3 (hno _ (Nat.le_refl _))
          have y4 := hmz2.keep z4 (hno _ (by omega))
          have yd := hmz2.keep zd (hno _ (by omega))
          have hmA : Mod (fun k => k = w.heap.size) z2' (Vc.set z2' w.heap.size (.cells #[.int .i64 0] 3 (0, 0))) := (Mod.refl _ _).set (.inr rfl)
          have y4A := hmA.keep y4 (by omega)
          have hmB : Mod (fun k => k = w.heap.size + 1) (Vc.set z2' w.heap.size (.cells #[.int .i64 0] 3 (0, 0))) (Vc.set (Vc.set z2' w.heap.size (.cells #[.int .i64 0] 3 (0, 0))) (w.heap.size + 1) (.cells #[.int .i64 (St.mcut si q).1] 23 (0, 0))) := (Mod.refl _ _).set (.inr rfl)
          have y3B := hmB.keep (get_set_same z2' w.heap.size (.cells #[.int .i64 0] 3 (0, 0)) (lt_of_get y3)) (by omega)
          have y4B : (Vc.set (Vc.set z2' w.heap.size (.cells #[.int .i64 0] 3 (0, 0))) (w.heap.size + 1) (.cells #[.int .i64 (St.mcut si q).1] 23 (0, 0))).heap[w.heap.size + 1]? = some (.cells #[.int .i64 (St.mcut si q).1] 23 (0, 0)) := get_set_same _ _ _ (lt_of_get y4A)
          have ydB := hmB.keep (hmA.keep yd (by omega)) (by omega)
          have hmAB : Mod (fun k => k = w.heap.size ∨ k = w.heap.size + 1) z2' _ := (hmA.mono fun k _ x => .inl x).then hmB (fun k _ x => .inr x)
          simp only [vc_seq, vc_cond, vc_ret, vc_ops, vcOps_nil, vcOps_cons, goL_apply, thenQ_normal, thenQ_ret, blockQ_ret, condP_true, upd_same, upd_other, updO_some, updO_none, ev_tmp, ev_const, endQ_ret, endK, resK, res1, packed, insVc, loadV_some, storeK, storeO_cells, iopK, iopV, isPlain, ne_eq, not_false_eq_true, Nat.reduceEqDiff, Nat.reduceLT, Nat.reduceLeDiff, reduceCtorEq, List.size_toArray, List.length_cons, List.length_nil, List.setIfInBounds_toArray, List.set_cons_zero, List.nil_append, List.cons_append, true_and, or_false, and_self, Nat.zero_add, decide_true, decide_false, Bool.and_false, Nat.lt_add_one, b0, r4', r5', y3, y4A]
          revert y3B y4B ydB hmAB
          generalize (Vc.set (Vc.set z2' w.heap.size (.cells #[.int .i64 0] 3 (0, 0))) (w.heap.size + 1) (.cells #[.int .i64 (St.mcut si q).1] 23 (0, 0))) = z5
          intro y3B y4B ydB hmAB
          have hmD : Mod (fun k => k = w2.heap.size) z5 (Vc.set z5 w2.heap.size (.deferred none)) := (Mod.refl _ _).set (.inr rfl)
          simp only [markO, ydB, hmD.keep y3B (by omega), hmD.keep y4B (by omega)]
          have hmAD : Mod (fun k => w.heap.size ≤ k) z2' (Vc.set z5 w2.heap.size (.deferred none)) := (hmAB.mono fun k _ x => by omega).then hmD (fun k _ x => by omega)
          exact h _ (((hmwz.trans hmz2)).then hmAD (fun k hk x => by omega)) (St.keep _ _ _ _ hA2' hmAD (fun k _ hk => hfoot k hk))
      · have e1 : ¬ (i : Int) < ((Q.length : Nat) : Int) := by omega
        have hie : i = Q.length := by omega
        rw [hie, List.drop_length] at hcut
        have hcut' : St.mcuts s Q = (0, si) := hcut
        rw [hcut', if_neg (by simp)] at h
        have hmA : Mod (fun k => k = w.heap.size) z (Vc.set z w.heap.size (.cells #[.int .i64 ((Q.length : Nat) : Int)] 3 (0, 0))) := (Mod.refl _ _).set (.inr rfl)
        have y4A := hmA.keep z4 (by omega)
        have hmB : Mod (fun k => k = w.heap.size + 1) (Vc.set z w.heap.size (.cells #[.int .i64 ((Q.length : Nat) : Int)] 3 (0, 0))) (Vc.set (Vc.set z w.heap.size (.cells #[.int .i64 ((Q.length : Nat) : Int)] 3 (0, 0))) (w.heap.size + 1) (.cells #[.int .i64 0] 23 (0, 0))) := (Mod.refl _ _).set (.inr rfl)
        have y3B := hmB.keep (get_set_same z w.heap.size (.cells #[.int .i64 ((Q.length : Nat) : Int)] 3 (0, 0)) (lt_of_get z3)) (by omega)
        have y4B : (Vc.set (Vc.set z w.heap.size (.cells #[.int .i64 ((Q.length : Nat) : Int)] 3 (0, 0))) (w.heap.size + 1) (.cells #[.int .i64 0] 23 (0, 0))).heap[w.heap.size + 1]? = some (.cells #[.int .i64 0] 23 (0, 0)) := get_set_same _ _ _ (lt_of_get y4A)
        have ydB := hmB.keep (hmA.keep zd (by omega)) (by omega)
        have hmAB : Mod (fun k => k = w.heap.size ∨ k = w.heap.size + 1) z _ := (hmA.mono fun k _ x => .inl x).then hmB (fun k _ x => .inr x)
        simp only [vc_seq, vc_cond, vc_exit, vc_ret, vc_ops, vcOps_nil, vcOps_cons, goL_apply, thenQ_normal, thenQ_exit, blockQ_same, condP_false, upd_same, upd_other, updO_some, updO_none, ev_tmp, ev_const, endQ_ret, endK, resK, res1, packed, insVc, load1K, loadO_cells, loadV_some, storeK, storeO_cells, iopK, iopV, lenLK, isPlain, ne_eq, not_false_eq_true, Nat.reduceEqDiff, Nat.reduceLT, Nat.reduceLeDiff, reduceCtorEq, List.getElem?_cons_zero, List.getElem?_toArray, List.size_toArray, List.length_cons, List.length_nil, List.setIfInBounds_toArray, List.set_cons_zero, List.nil_append, List.cons_append, true_and, or_false, and_self, Nat.zero_add, decide_true, decide_false, Bool.and_false, Nat.lt_add_one, r4', r5', r6', r25, r26, e1, z6, z3, y4A]
        revert y3B y4B ydB hmAB
        generalize (Vc.set (Vc.set z w.heap.size (.cells #[.int .i64 ((Q.length : Nat) : Int)] 3 (0, 0))) (w.heap.size + 1) (.cells #[.int .i64 0] 23 (0, 0))) = z5
        intro y3B y4B ydB hmAB
        have hmD : Mod (fun k => k = w2.heap.size) z5 (Vc.set z5 w2.heap.size (.deferred none)) := (Mod.refl _ _).set (.inr rfl)
        simp only [markO, ydB, hmD.keep y3B (by omega), hmD.keep y4B (by omega)]
        have hmAD : Mod (fun k => w.heap.size ≤ k) z (Vc.set z5 w2.heap.size (.deferred none)) := (hmAB.mono fun k _ x => by omega).then hmD (fun k _ x => by omega)
        exact h _ (hmwz.then hmAD (fun k hk x => by omega)) (St.keep _ _ _ _ hAz hmAD (fun k _ hk => hfoot k hk))
  · rintro c X u ⟨rfl, h1, h2, h3, h4, h5⟩ ⟨d1, d2, d3⟩
    have hmD : Mod (fun k => k = w2.heap.size) u (Vc.set u w2.heap.size (.deferred none)) := (Mod.refl _ _).set (.inr rfl)
    simp only [exitOf, thenQ_ret, blockQ_ret, upd_same, upd_other, endQ_ret, endK, resK, res1, packed, ne_eq, not_false_eq_true, Nat.reduceEqDiff, List.nil_append, List.cons_append, markO, d1, hmD.keep h3 (by omega), hmD.keep h4 (by omega)]
    unfold StoC.mclear at h
    rw [if_pos h5] at h
    exact h _ ((h2.mono fun _ _ x => x.elim).then hmD (fun i hi hk => by omega)) (St.keep _ _ _ _ h1 hmD (fun k _ hk => hfoot k (by omega)))
end Go.Oct

namespace Go.Oct
open Go Go.Vc Go.VrA Go.VrB Go.VrC Go.VrE
set_option maxRecDepth 100000

/-! ### the reference's Same, law 22's Light -/

theorem same_c (l : List Ms) (v1 v2 : Value) (w : World) (K : Value → World → Prop) (hv1 : IsBx w v1 l) (hv2 : IsBx w v2 l) (hl : l.length < 2 ^ 20)
    (h : ∀ w', Mod (fun _ => False) w w' → K (.bool true) w') : Ok Proofs.Tryz.prog 43 #[v1, v2] w K := by
  obtain ⟨⟨a, cp, rfl⟩, hat⟩ := hv1
  obtain ⟨⟨a', cp', rfl⟩, hat'⟩ := hv2
  refine F43.enter (args := [.slice a l.length cp, .slice a' l.length cp']) (by simp) ?_
  unfold c43 r43
  have e0 : (((l.length : Nat) : Int) != ((l.length : Nat) : Int)) = false := by simp
  simp only [vc_skip, vc_seq, vc_cond, vc_block, vc_ops, vcOps_nil, vcOps_cons, goL_apply, thenQ_normal, condP_false, upd_same, upd_other, updO_some, ev_tmp, ev_const, initE_at, insVc, loadV_some, iopK, iopV, lenLK, ne_eq, not_false_eq_true, Nat.reduceEqDiff, reduceCtorEq, Option.getD_some, List.getElem?_cons_zero, List.getElem?_cons_succ, true_and, or_false, e0]
  refine vc_loop (fun mm ρ ds u => ∃ i, i ≤ l.length ∧ mm = l.length - i ∧ ds = [] ∧ ρ 0 = .slice a l.length cp ∧ ρ 1 = .slice a' l.length cp' ∧ ρ 12 = .int .i64 l.length ∧ ρ 13 = .int .i64 i ∧ Mod (fun _ => False) w u) (l.length - 0) ?_ ?_
  · exact ⟨0, Nat.zero_le _, rfl, rfl, by simp only [upd_other, initE_at, ne_eq, not_false_eq_true, reduceCtorEq, Option.getD_some, List.getElem?_cons_zero], by simp only [upd_other, initE_at, ne_eq, not_false_eq_true, Nat.reduceEqDiff, Option.getD_some, List.getElem?_cons_zero, List.getElem?_cons_succ], by simp only [upd_same, upd_other, ne_eq, not_false_eq_true, Nat.reduceEqDiff], by simp only [upd_same]; rfl, Mod.refl _ _⟩
  · rintro mm ρ ds u ⟨i, hi, rfl, rfl, h0, h1, h12, h13, hmu⟩
    by_cases c1 : i < l.length
    · have d1 : (i : Int) < ((l.length : Nat) : Int) := by omega
      obtain ⟨x, hxi⟩ : ∃ x, l[i]? = some x := ⟨l[i], List.getElem?_eq_getElem c1⟩
      obtain ⟨b, o, c, cur, t, f, he, hb, hsz, hex⟩ := hat i x hxi
      obtain ⟨b', o', c', cur', t', f', he', hb', hsz', hex'⟩ := hat' i x hxi
      have hbu := hmu.keep hb id
      have hbu' := hmu.keep hb' id
      have ha : a = some ⟨b, o, none⟩ := by simpa using congrArg (fun x => match x with | .slice a _ _ => a | _ => none) he
      have ha' : a' = some ⟨b', o', none⟩ := by simpa using congrArg (fun x => match x with | .slice a _ _ => a | _ => none) he'
      subst ha ha'
      have hi0 : (0 : Int) ≤ (i : Int) ∧ (i : Int) < ((l.length : Nat) : Int) := by omega
      have hw1 : IntKind.i64.wrap ((i : Int) + 1) = ((i + 1 : Nat) : Int) := by rw [wrap_i64 _ (by omega)]; omega
      simp only [vc_skip, vc_seq, vc_cond, vc_block, vc_ops, vcOps_nil, vcOps_cons, goL_apply, thenQ_normal, condP_true, upd_same, upd_other, updO_some, ev_tmp, insVc, loadV_some, iopK, iopV, ne_eq, not_false_eq_true, Nat.reduceEqDiff, reduceCtorEq, true_and, or_false, decide_true, h12, h13, d1]
      refine draw_e (by kernel_rfl) (by kernel_rfl) (by kernel_rfl) (by kernel_rfl) ?_
      simp only [vc_cond, thenQ_normal, upd_same, upd_other, updO_some, ev_tmp, insVc, loadNK, loadNO_cells, iaddrK, ne_eq, not_false_eq_true, Nat.reduceEqDiff, reduceCtorEq, true_and, and_self, if_true, if_false, Bool.false_eq_true, Int.toNat_natCast, pureI, kindI, loadI, vcE_nil, vcE_cons, stepE_pure, stepE_load, stepE_step, h0, h1, hi0, hbu, hsz, hex, hbu', hsz', hex']
      refine rawK_neq_ms x rfl rfl rfl rfl rfl ⟨(Mod.refl _ _).drew, ?_⟩
      simp only [vc_skip, vc_ops, vcOps_nil, vcOps_cons, goL_apply, thenQ_normal, blockQ_normal, condP_false, upd_same, upd_other, updO_some, ev_tmp, ev_const, insVc, loadV_some, iopK, iopV, ne_eq, not_false_eq_true, Nat.reduceEqDiff, reduceCtorEq, true_and, or_false, h0, h1, h12, h13, hw1]
      exact ⟨l.length - (i + 1), by omega, i + 1, by omega, rfl, rfl, hmu.trans (Mod.refl _ _).drew⟩
    · have d1 : ¬ (i : Int) < ((l.length : Nat) : Int) := by omega
      simp only [vc_seq, vc_cond, vc_exit, vc_ret, vc_ops, vcOps_nil, vcOps_cons, goL_apply, thenQ_normal, thenQ_exit, blockQ_same, condP_false, upd_same, updO_some, ev_tmp, ev_const, endQ_ret, endK, resK, packed, insVc, loadV_some, iopK, iopV, reduceCtorEq, List.nil_append, true_and, or_false, decide_false, h12, h13, d1]
      exact h u hmu

structure Ac where
  act : Int
  m : Ms
  nx : Ms
def Ac.cells (a : Ac) : List Value := .int .i64 a.act :: (a.m.cells ++ a.nx.cells)
def Ac.val (a : Ac) : Value := .agg a.cells.toArray
def IsAcs (w : World) (v : Value) (l : List Ac) : Prop :=
  (∃ a c, v = .slice a l.length c) ∧ ∀ (i : Nat) m, l[i]? = some m → ∃ b o c cur t f, v = .slice (some ⟨b, o, none⟩) l.length c ∧ w.heap[b]? = some (.cells cur t f) ∧ o + i * 11 + 11 ≤ cur.size ∧ cur.extract (o + i * 11) (o + i * 11 + 11) = m.cells.toArray
def Ac.okA (n most : Nat) (a : Ac) : Prop := n ≤ most ∧ a.m.queue.size ≤ 400 ∧ a.nx.queue.size ≤ 400 ∧ a.m.body.size ≤ 1000 ∧ a.nx.body.size ≤ 1000

theorem light22_c (l : List Ac) (most : Nat) (v : Value) (w : World) (K : Value → World → Prop) (hv : IsAcs w v l) (hl : l.length ≤ 9223372036854775807)
    (hsz0 : ∀ a ∈ l, a.m.queue.size ≤ maxLen ∧ a.nx.queue.size ≤ maxLen ∧ a.m.body.size ≤ maxLen ∧ a.nx.body.size ≤ maxLen)
    (h : ∀ w' r, Mod (fun _ => False) w w' → (r = true → ∀ a ∈ l, a.okA l.length most) → K (.bool r) w') : Ok Proofs.Tryz.prog 34 #[v, .int .i64 most] w K := by
  obtain ⟨⟨a, cp, rfl⟩, hat⟩ := hv
  refine F34.enter (args := [.slice a l.length cp, .int .i64 most]) (by simp) ?_
  unfold c34 r34
  simp only [vc_seq, vc_block, vc_ops, vcOps_nil, vcOps_cons, goL_apply, thenQ_normal, upd_same, upd_other, updO_some, ev_tmp, ev_const, initE_at, insVc, lenLK, ne_eq, not_false_eq_true, reduceCtorEq, Option.getD_some, List.getElem?_cons_zero]
  refine vc_loop (fun mm ρ ds u => ∃ i, i ≤ l.length ∧ mm = l.length - i ∧ ds = [] ∧ ρ 0 = .slice a l.length cp ∧ ρ 1 = .int .i64 most ∧ ρ 7 = .slice a l.length cp ∧ ρ 8 = .int .i64 l.length ∧ ρ 9 = .int .i64 i ∧ Mod (fun _ => False) w u ∧ ∀ x ∈ l.take i, x.okA l.length most) (l.length - 0) ?_ ?_
  · exact ⟨0, Nat.zero_le _, rfl, rfl, by simp only [upd_other, initE_at, ne_eq, not_false_eq_true, reduceCtorEq, Option.getD_some, List.getElem?_cons_zero], by simp only [upd_other, initE_at, ne_eq, not_false_eq_true, Nat.reduceEqDiff, Option.getD_some, List.getElem?_cons_zero, List.getElem?_cons_succ], by simp only [upd_same, upd_other, ne_eq, not_false_eq_true, Nat.reduceEqDiff], by simp only [upd_same, upd_other, ne_eq, not_false_eq_true, Nat.reduceEqDiff], by simp only [upd_same]; rfl, Mod.refl _ _, by simp⟩
  · rintro mm ρ ds u ⟨i, hi, rfl, rfl, h0, h1, h7, h8, h9, hmu, hok⟩
    by_cases c1 : i < l.length
    · have d1 : (i : Int) < ((l.length : Nat) : Int) := by omega
      obtain ⟨x, hxi⟩ : ∃ x, l[i]? = some x := ⟨l[i], List.getElem?_eq_getElem c1⟩
      obtain ⟨b, o, c, cur, t, f, he, hb, hsz, hex⟩ := hat i x hxi
      have hbu := hmu.keep hb id
      rw [Nat.add_assoc] at hsz hex
      have ha : a = some ⟨b, o, none⟩ := by simpa using congrArg (fun x => match x with | .slice a _ _ => a | _ => none) he
      subst ha
      have hi0 : (0 : Int) ≤ (i : Int) ∧ (i : Int) < ((l.length : Nat) : Int) := by omega
      have hw1 : IntKind.i64.wrap ((i : Int) + 1) = ((i + 1 : Nat) : Int) := by rw [wrap_i64 _ (by omega)]; omega
      have htk : l.take (i + 1) = l.take i ++ [x] := by rw [List.take_add_one, hxi]; rfl
      obtain ⟨u1, hu1⟩ : ∃ u1, u1 = Vc.set (u.alloc (.cells #[.int .i64 0, .string ⟨#[]⟩, .int .u64 0, .int .u32 0, .int .u64 0, .string ⟨#[]⟩, .string ⟨#[]⟩, .int .u64 0, .int .u32 0, .int .u64 0, .string ⟨#[]⟩] 89)) u.heap.size (.cells #[.int .i64 x.act, .string x.m.queue, .int .u64 x.m.id, .int .u32 x.m.tries, .int .u64 x.m.expiry, .string x.m.body, .string x.nx.queue, .int .u64 x.nx.id, .int .u32 x.nx.tries, .int .u64 x.nx.expiry, .string x.nx.body] 89) := ⟨_, rfl⟩
      have hmu1 : Mod (fun _ => False) u u1 := by rw [hu1]; exact ((Mod.refl _ _).alloc _).set (.inl (Nat.le_refl _))
      obtain ⟨z1, z2, z3, z4⟩ := hsz0 x (List.mem_of_getElem? hxi)
      by_cases cA : (l.length : Int) > (most : Int)
      · simp only [vc_skip, vc_seq, vc_cond, vc_block, vc_ret, vc_ops, vcOps_nil, vcOps_cons, vcOps_gate, gateK_false, gate_false, goL_apply, thenQ_normal, thenQ_ret, blockQ_ret, condP_true, upd_same, upd_other, updO_some, updO_none, ev_tmp, ev_const, endQ_ret, endK, resK, packed, insVc, pickK, loadV_some, loadNK, loadNO_cells, storeNK, storeNO_cells, setMany, iopK, iopV, iaddrK, lenLK, isPlain, Value.cells, ne_eq, not_false_eq_true, Nat.reduceEqDiff, Nat.reduceAdd, Nat.reduceLeDiff, reduceCtorEq, Bool.not_true, List.size_toArray, List.length_cons, List.length_nil, List.setIfInBounds_toArray, List.set_cons_zero, List.set_cons_succ, List.nil_append, List.cons_append, true_and, or_false, and_self, if_true, Nat.zero_add, decide_true, Bool.and_true, Int.toNat_natCast, List.all_toArray', List.all_cons, List.all_nil, get_alloc, Nat.add_assoc, Nat.reduceAdd, Nat.reduceEqDiff, h0, h1, h7, h8, h9, d1, hi0, hbu, hsz, hex, Ac.cells, Ms.cells, cA]
        rw [← hu1]
        exact h _ false (hmu.trans hmu1) (fun e => by cases e)
      · simp only [vc_skip, vc_seq, vc_cond, vc_block, vc_ops, vcOps_nil, vcOps_cons, vcOps_gate, gateK_true, gate_false, goL_apply, thenQ_normal, condP_true, upd_same, upd_other, updO_some, updO_none, ev_tmp, insVc, load1K, loadO_cells, loadV_some, loadNK, loadNO_cells, storeNK, storeNO_cells, setMany, iopK, iopV, faddrK, iaddrK, lenSK, lenLK, isPlain, Value.cells, ne_eq, not_false_eq_true, Nat.reduceEqDiff, Nat.reduceAdd, Nat.reduceLeDiff, reduceCtorEq, Bool.not_false, List.getElem?_cons_zero, List.getElem?_cons_succ, List.getElem?_toArray, List.size_toArray, List.length_cons, List.length_nil, List.setIfInBounds_toArray, List.set_cons_zero, List.set_cons_succ, List.nil_append, List.cons_append, true_and, or_false, and_self, if_true, Nat.zero_add, Nat.add_zero, decide_true, decide_false, Bool.and_true, Int.toNat_natCast, List.all_toArray', List.all_cons, List.all_nil, size_alloc, get_set_same, Nat.lt_add_one, get_alloc, size_alloc, Nat.add_assoc, Nat.reduceAdd, Nat.reduceEqDiff, h0, h1, h7, h8, h9, d1, hi0, hbu, hsz, hex, Ac.cells, Ms.cells, cA]
        rw [← hu1]
        refine rawK_max rfl rfl rfl rfl rfl ?_
        have px : u1.heap[u.heap.size]? = some (.cells #[.int .i64 x.act, .string x.m.queue, .int .u64 x.m.id, .int .u32 x.m.tries, .int .u64 x.m.expiry, .string x.m.body, .string x.nx.queue, .int .u64 x.nx.id, .int .u32 x.nx.tries, .int .u64 x.nx.expiry, .string x.nx.body] 89 (0, 0)) := by rw [hu1]; exact get_set_same _ _ _ (by simp only [size_alloc]; omega)
        by_cases cB : max ((x.m.queue.size : Nat) : Int) ((x.nx.queue.size : Nat) : Int) > 400
        · simp only [vc_seq, vc_cond, vc_ret, vc_ops, vcOps_nil, vcOps_cons, vcOps_gate, gateK_true, gateK_false, gate_false, goL_apply, thenQ_normal, thenQ_ret, blockQ_ret, condP_true, upd_same, upd_other, updO_some, ev_tmp, ev_const, endQ_ret, endK, resK, packed, insVc, pickK, loadV_some, iopK, iopV, ne_eq, not_false_eq_true, Nat.reduceEqDiff, reduceCtorEq, Bool.not_true, Bool.not_false, List.nil_append, true_and, or_false, if_true, if_false, Bool.false_eq_true, decide_true, cB]
          exact h _ false (hmu.trans hmu1) (fun e => by cases e)
        · simp only [vcOps_cons, vcOps_gate, gateK_true, gate_false, goL_apply, upd_same, upd_other, updO_some, ev_tmp, ev_const, insVc, pickK, load1K, loadO_cells, loadV_some, iopK, iopV, faddrK, lenSK, ne_eq, not_false_eq_true, Nat.reduceEqDiff, Nat.reduceAdd, reduceCtorEq, Bool.not_false, List.getElem?_cons_zero, List.getElem?_cons_succ, List.getElem?_toArray, true_and, or_false, if_false, Bool.false_eq_true, Nat.zero_add, decide_false, cB, px]
          refine rawK_max rfl rfl rfl rfl rfl ?_
          by_cases cC : max ((x.m.body.size : Nat) : Int) ((x.nx.body.size : Nat) : Int) > 1000
          · simp only [vc_seq, vc_cond, vc_ret, vc_ops, vcOps_nil, vcOps_cons, vcOps_gate, gateK_true, gate_false, goL_apply, thenQ_normal, thenQ_ret, blockQ_ret, condP_true, upd_same, upd_other, updO_some, ev_tmp, ev_const, endQ_ret, endK, resK, packed, insVc, pickK, loadV_some, iopK, iopV, ne_eq, not_false_eq_true, Nat.reduceEqDiff, reduceCtorEq, Bool.not_false, List.nil_append, true_and, or_false, if_false, Bool.false_eq_true, decide_true, cC]
            exact h _ false (hmu.trans hmu1) (fun e => by cases e)
          · simp only [vc_skip, vc_cond, vc_ops, vcOps_nil, vcOps_cons, vcOps_gate, gateK_true, gate_false, goL_apply, thenQ_normal, blockQ_normal, condP_false, upd_same, upd_other, updO_some, ev_tmp, ev_const, insVc, pickK, loadV_some, iopK, iopV, ne_eq, not_false_eq_true, Nat.reduceEqDiff, reduceCtorEq, Bool.not_false, true_and, or_false, if_false, Bool.false_eq_true, decide_false, cC, h0, h1, h7, h8, h9, hw1]
            refine ⟨l.length - (i + 1), by omega, i + 1, by omega, rfl, rfl, hmu.trans hmu1, ?_⟩
            intro y hy
            rw [htk] at hy
            rcases List.mem_append.1 hy with hy | hy
            · exact hok y hy
            · rw [List.mem_singleton.1 hy]
              exact ⟨by omega, by omega, by omega, by omega, by omega⟩
    · have d1 : ¬ (i : Int) < ((l.length : Nat) : Int) := by omega
      have hie : i = l.length := by omega
      rw [hie, List.take_length] at hok
      simp only [vc_seq, vc_cond, vc_exit, vc_ret, vc_ops, vcOps_nil, vcOps_cons, goL_apply, thenQ_normal, thenQ_exit, blockQ_same, condP_false, upd_same, updO_some, ev_tmp, ev_const, endQ_ret, endK, resK, packed, insVc, loadV_some, iopK, iopV, reduceCtorEq, List.nil_append, true_and, or_false, decide_false, h8, h9, d1]
      exact h _ true hmu (fun _ => hok)
end Go.Oct

namespace Go.Oct
open Go Go.Vc Go.VrA Go.VrB Go.VrC Go.VrE
set_option maxRecDepth 100000

/-! ### law 22's do -/

/-! what the shelf's calls ask -/
theorem Rl.vals {B : List Ms} {m : M} (h : Rl B m) : ∀ p ∈ m, p.2.length < 2 ^ 60 := by
  intro p hp
  rcases (h.mem p).1 hp with ⟨y, hy, rfl⟩ | ⟨y, hy, _, rfl⟩
  · have e : (mbytes y).data.toList.length = (mbytes y).size := by rw [Array.length_toList]; rfl
    have := mbytes_size2 y (h.fit y hy)
    show (mbytes y).data.toList.length < 2 ^ 60
    omega
  · exact (by decide : ([] : List UInt8).length < 2 ^ 60)
theorem mget_any (sb mb : Nat) (h0 : 0 ≠ mb) (c : Nat) {B : List Ms} {m : M} (h : Rl B m) (q : ByteArray) {n : Nat} (hn : n < 2 ^ 64) :
    ((shelf sb mb h0).mgetR (c, m) q n).1.queue.size < 4294967281 ∧ ((shelf sb mb h0).mgetR (c, m) q n).1.id < 2 ^ 64 ∧ ((shelf sb mb h0).mgetR (c, m) q n).1.expiry < 2 ^ 64 := by
  by_cases hf : findL q n B 0 ≥ 0
  · obtain ⟨y, hy, e1, e2⟩ := (findL_iff _ _ _ _).1 hf
    have hg := mget_shelf sb mb h0 c h hy
    rw [e1, e2] at hg
    rw [hg]
    have hyf := h.fit y hy
    exact ⟨by have := hyf.qsize; show y.queue.size < _; omega, hyf.2.1, hyf.2.2.1⟩
  · rw [mget_shelf_none sb mb h0 c h hn (find_none hf)]
    decide
theorem mcut_fst (sb mb : Nat) (h0 : 0 ≠ mb) (s : Nat × M) (x : Ms) : ((shelfC sb mb h0).mcut s x).2.1 = s.1 := by
  have hc : ∀ (s : Nat × M) k, ((shelfC sb mb h0).cut s k).2.1 = s.1 := fun _ _ => rfl
  unfold StoC.mcut
  split
  · rfl
  · split
    · exact hc _ _
    · rw [hc, hc]
theorem fit_put (sb mb : Nat) (h0 : 0 ≠ mb) (s : Nat × M) (k x : ByteArray) (h : s.1 + 1 < maxLen) : (shelf sb mb h0).fit ((shelf sb mb h0).put s k x).2 := by
  have e : (shelf sb mb h0).put s k x = if k.size > 255 ∨ x.size > 65536 then (5, s) else (0, (s.1 + 1, putM k.data.toList x.data.toList s.2)) := rfl
  rw [e]
  split
  · show s.1 < maxLen; omega
  · show s.1 + 1 < maxLen; omega

/-! a queue emptied -/
theorem cuts_shelf (sb mb : Nat) (h0 : 0 ≠ mb) (c : Nat) : ∀ (Q : List Ms) (B : List Ms) (m : M), Rl B m → Q.Pairwise ltM → (∀ x ∈ Q, x ∈ B) →
    ∃ m', (shelfC sb mb h0).mcuts (c, m) Q = (0, (c, m')) ∧ Rl (B.filter fun y => Q.all fun x => decide (¬ (y.queue = x.queue ∧ y.id = x.id))) m' := by
  intro Q
  induction Q with
  | nil =>
    intro B m h _ _
    refine ⟨m, rfl, ?_⟩
    have : (B.filter fun y => ([] : List Ms).all fun x => decide (¬ (y.queue = x.queue ∧ y.id = x.id))) = B := List.filter_eq_self.2 (fun _ _ => rfl)
    rw [this]; exact h
  | cons q Q ih =>
    intro B m h hQ hB
    have hQ' := List.pairwise_cons.1 hQ
    have hq := hB q (by simp)
    have hcut := h.cut hq
    obtain ⟨m', e, hr⟩ := ih _ _ hcut hQ'.2 (fun x hx => mem_rem.2 ⟨hB x (by simp [hx]), fun e => by
      rcases hQ'.1 x hx with h1 | ⟨_, h1⟩
      · rw [e.1] at h1; exact List.lt_irrefl _ h1
      · omega⟩)
    refine ⟨m', ?_, ?_⟩
    · rw [mcuts_cons, mcut_shelf sb mb h0 c m q (h.fit q hq).1, if_neg (by simp)]
      exact e
    · unfold remL at hr
      rw [List.filter_filter] at hr
      have : (B.filter fun y => (q :: Q).all fun x => decide (¬ (y.queue = x.queue ∧ y.id = x.id))) = B.filter (fun a => (Q.all fun x => decide (¬ (a.queue = x.queue ∧ a.id = x.id))) && decide (¬ (a.queue = q.queue ∧ a.id = q.id))) := by
        refine List.filter_congr fun y _ => ?_
        rw [List.all_cons, Bool.and_comm]
      rw [this]; exact hr
def notL (q : ByteArray) (B : List Ms) : List Ms := B.filter fun y => decide (y.queue ≠ q)
theorem notL_snoc (q : ByteArray) (l : List Ms) (x : Ms) : notL q (l ++ [x]) = notL q l ++ (if x.queue ≠ q then [x] else []) := by
  unfold notL
  rw [List.filter_append]
  congr 1
  by_cases h : x.queue = q <;> simp [h]
theorem from_mem {q : ByteArray} {n : Nat} {B : List Ms} {x : Ms} : x ∈ fromL q n B ↔ x ∈ B ∧ x.queue = q ∧ n ≤ x.id := by
  unfold fromL
  rw [List.mem_filter, decide_eq_true_eq]
theorem firstE_zero (Q : List Ms) : firstE (Q.map fun y => (y, (0 : Int))) = 0 := by
  induction Q with
  | nil => rfl
  | cons q Q ih =>
    show (if (0 : Int) ≠ 0 then 0 else firstE (Q.map fun y => (y, (0 : Int)))) = 0
    rw [if_neg (by simp)]; exact ih
theorem clear_shelf (sb mb : Nat) (h0 : 0 ≠ mb) (c : Nat) (m : M) (B : List Ms) (q : ByteArray) (h : Rl B m) :
    ∃ m', (shelfC sb mb h0).mclear (c, m) ((shelf sb mb h0).listRows (c, m) q 0) = (((fromL q 0 B).length, 0), (c, m')) ∧ Rl (notL q B) m' := by
  rw [list_shelf sb mb h0 c h q 0 (by decide)]
  obtain ⟨m', e, hr⟩ := cuts_shelf sb mb h0 c (fromL q 0 B) B m h (List.Pairwise.filter _ h.sortB) (fun x hx => (from_mem.1 hx).1)
  unfold StoC.mclear
  have em : ((fromL q 0 B).map fun y => (y, (0 : Int))).map (·.1) = fromL q 0 B := by rw [List.map_map]; exact List.map_id' _
  rw [firstE_zero, em, e]
  refine ⟨m', by simp, ?_⟩
  have : notL q B = B.filter fun y => (fromL q 0 B).all fun x => decide (¬ (y.queue = x.queue ∧ y.id = x.id)) := by
    unfold notL
    refine List.filter_congr fun y hy => ?_
    by_cases hq : y.queue = q
    · have hmem : y ∈ fromL q 0 B := from_mem.2 ⟨hy, hq, Nat.zero_le _⟩
      have h1 : decide (y.queue ≠ q) = false := by simp [hq]
      rw [h1, eq_comm, Bool.eq_false_iff]
      intro hall
      have := of_decide_eq_true (List.all_eq_true.1 hall y hmem)
      exact this ⟨rfl, rfl⟩
    · have h1 : decide (y.queue ≠ q) = true := by simp [hq]
      rw [h1, eq_comm, List.all_eq_true]
      intro x hx
      refine decide_eq_true fun e => hq ?_
      rw [e.1]; exact (from_mem.1 hx).2.1
  rw [this]; exact hr

def Ms.anyQ (x : Ms) : Prop := x.anyB ∧ x.queue.size ≤ 400
def doR (a : Ac) (B : List Ms) : List Ms :=
  if a.act.tmod 5 = 1 ∨ a.act.tmod 5 = -1 then (saveR a.m B).1 else
  if a.act.tmod 5 = 2 ∨ a.act.tmod 5 = -2 then (takeR a.m.queue a.m.id B).1 else
  if a.act.tmod 5 = 3 ∨ a.act.tmod 5 = -3 then (moveR a.m a.nx B).1 else
  if a.act.tmod 5 = 4 ∨ a.act.tmod 5 = -4 then notL a.m.queue B else (addR a.m B).1

theorem run_eql_ms (q : Ms) (w : World) : (binOp .eql 49 (.agg q.cells.toArray) (.agg q.cells.toArray)).run Proofs.Tryz.prog w = .ok (.bool true) w := by
  have h := run_neq_ms q w
  rw [run_neq_struct] at h
  rw [run_eql_struct]
  revert h
  generalize (Op.equalIn 10000 49 (.agg q.cells.toArray) (.agg q.cells.toArray)).run Proofs.Tryz.prog w = R
  intro h
  cases R with
  | ok b w' =>
    simp only [Result.andThen] at h ⊢
    cases b <;> simp_all
  | halt x w' => simp [Result.andThen] at h
theorem rawK_eql_ms {go : Value → World → Prop} {ρ : Env} {ds : List Deferred} {n : Nat} {o : Oper} {w : World} {x y : Operand} (q : Ms) (ho : o.op = .binOp .eql 49 x y 49)
    (hx : inB n x = true) (hy : inB n y = true) (ha : ev ρ x = .agg q.cells.toArray) (hb : ev ρ y = .agg q.cells.toArray) (h : go (.bool true) w) : RawK Proofs.Tryz.prog go ρ ds n o w := by
  unfold RawK
  simp only [execOp, ho, mkA_eval n ρ ds x hx, mkA_eval n ρ ds y hy, ha, hb, Sem.run_bind, run_eqGuard_agg w .eql 49 x y _ _ (by kernel_rfl : Proofs.Tryz.prog.eqGuardType Proofs.Tryz.prog.depth 49 = false), Result.andThen, run_eql_ms]
  exact h
end Go.Oct
