import Derived.Test.YtbkddpckkgbbmaaGreatDoorVpI
import Derived.Test.YtbkddpckkgbbmaaGreatDoorTryzRep
set_option linter.unusedSimpArgs false
set_option linter.unusedVariables false
set_option linter.unusedSectionVars false
set_option linter.unnecessarySimpa false
namespace Go.Oct
open Go Go.Vc Go.VrA Go.VrB
set_option maxRecDepth 100000

/-! ### report: numbers, rows, lists -/

theorem num177_c (n : Nat) (hn : n < 100) (w : World) (K : Value → World → Prop) (h : K (.string ⟨(Lib.decDigits n).toArray⟩) w) : Ok Proofs.Tryz.prog 177 #[.int .u64 n] w K := by
  refine F177.enter (args := [.int .u64 n]) (by simp) ?_
  unfold c177 r177
  simp only [vc_seq, vc_ops, vcOps_nil, vcOps_cons, goL_apply, thenQ_normal, upd_same, upd_other, updO_some, ev_tmp, ev_const, initE_at, insVc, ne_eq, not_false_eq_true, reduceCtorEq, Option.getD_some, List.map_cons, List.map_nil, List.getElem?_cons_zero]
  refine F209.enter (args := [.int .u64 n, .int .i64 10]) (by simp) ?_
  unfold c209 r209
  simp only [vc_seq, vc_ops, vcOps_nil, vcOps_cons, goL_apply, thenQ_normal, upd_same, upd_other, updO_some, ev_tmp, ev_const, initE_at, insVc, ne_eq, not_false_eq_true, Nat.reduceEqDiff, reduceCtorEq, Option.getD_some, List.map_cons, List.map_nil, List.getElem?_cons_zero, List.getElem?_cons_succ]
  refine F234.enter (args := [.int .u64 n, .int .i64 10]) (by simp) ?_
  unfold c234 r234
  have h1 : ((n : Nat) : Int) < 100 := by omega
  have h2 : IntKind.i64.wrap (n : Int) = n := wrap_i64 _ (by omega)
  have h3 : ((10 : Int) == 10) = true := rfl
  simp only [vc_seq, vc_cond, vc_ops, vcOps_nil, vcOps_cons, goL_apply, thenQ_normal, condP_true, upd_same, upd_other, updO_some, ev_tmp, ev_const, initE_at, insVc, loadV_some, iopK, iopV, convK, ne_eq, not_false_eq_true, Nat.reduceEqDiff, reduceCtorEq, Option.getD_some, List.map_cons, List.map_nil, List.getElem?_cons_zero, List.getElem?_cons_succ, true_and, or_false, decide_true, h1, h2, h3]
  refine ok_of_calls (by kernel_rfl) (Go.Proofs.Tryz.internal_strconv_small n hn w) ?_
  rintro e w' ⟨rfl, rfl⟩
  refine ⟨_, rfl, ?_⟩
  simp only [vc_ret, vcOps_nil, vcOps_cons, goL_apply, thenQ_normal, thenQ_ret, upd_same, updO_some, ev_tmp, endQ_ret, endK, resK, packed, insVc, List.nil_append]
  exact h

theorem join_c (bk : Nat) (xs : List ByteArray) (sep : ByteArray) (c : Nat) (cur : Array Value) (t : TypeId) (f : Nat × Nat) (w : World) (K : Value → World → Prop) (hb : w.heap[bk]? = some (.cells cur t f)) (hcur : ∀ (j : Nat) x, xs[j]? = some x → cur[j]? = some (.string x)) (hc : xs.length ≤ c) (hN : xs.length ≤ 140737488355328)
    (hlen : (Lib.join (xs.map (·.data.toList)) sep.data.toList).length ≤ 140737488355328)
    (h : ∀ w', Mod (fun _ => False) w w' → K (.string ⟨(Lib.join (xs.map (·.data.toList)) sep.data.toList).toArray⟩) w') : Ok Proofs.Tryz.prog 207 #[.slice (some ⟨bk, 0, none⟩) xs.length c, .string sep] w K := by
  refine ok_of_calls (by kernel_rfl) (Go.Proofs.Tryz.strings_Join bk 0 c xs sep w ?_ (lt_of_get hb) hN hc hlen) ?_
  · intro j x hj
    simp [World.cell?, hb, hcur j x hj]
  · rintro e w' ⟨rfl, hlo⟩
    exact ⟨_, rfl, h w' (Mod.of_below hlo)⟩

theorem row175_c (bk : Nat) (xs : List ByteArray) (c : Nat) (cur : Array Value) (t : TypeId) (f : Nat × Nat) (w : World) (K : Value → World → Prop) (hb : w.heap[bk]? = some (.cells cur t f)) (hcur : ∀ (j : Nat) x, xs[j]? = some x → cur[j]? = some (.string x)) (hc : xs.length ≤ c) (hN : xs.length ≤ 140737488355328)
    (hlen : (Lib.join (xs.map (·.data.toList)) [32]).length ≤ 140737488355328)
    (h : ∀ w', Mod (fun _ => False) w w' → K (.string ⟨(Lib.join (xs.map (·.data.toList)) [32]).toArray⟩) w') : Ok Proofs.Tryz.prog 175 #[.slice (some ⟨bk, 0, none⟩) xs.length c] w K := by
  refine F175.enter (args := [_]) (by simp) ?_
  unfold c175 r175
  simp only [vc_seq, vc_ops, vcOps_nil, vcOps_cons, goL_apply, thenQ_normal, upd_same, upd_other, updO_some, ev_tmp, ev_const, initE_at, insVc, ne_eq, not_false_eq_true, reduceCtorEq, Option.getD_some, List.map_cons, List.map_nil, List.getElem?_cons_zero]
  refine join_c bk xs ⟨#[32]⟩ c cur t f w _ hb hcur hc hN hlen ?_
  intro w' hm
  simp only [vc_ret, vcOps_nil, vcOps_cons, goL_apply, thenQ_normal, upd_same, updO_some, ev_tmp, endQ_ret, endK, resK, packed, insVc, List.nil_append]
  exact h w' hm

theorem info_str : (Proofs.Tryz.prog.info? 9).map (fun i => (i.zero, i.size, i.bytes)) = some (some (.string ⟨#[]⟩), 1, 16) := by kernel_rfl

theorem append_str0 (x : ByteArray) (w : World) (ty : TypeId) :
    ∃ v' w', (Builtin.append_ #[80, 80] ty #[.slice none 0 0, .slice (some ⟨w.heap.size, 0, none⟩) 1 1]).run Proofs.Tryz.prog (w.alloc (.cells #[.string x] 9)) = .ok v' w' ∧
      w'.ownsRow w.heap.size 9 1 v' 1 [.string x] ∧ Mod (fun _ => False) w w' := by
  obtain ⟨i, hi, hi1, hi2⟩ := info_of info_str
  have hm1 : Mod (fun _ => False) w (w.alloc (.cells #[.string x] 9)) := (Mod.refl _ _).alloc _
  have hsrc : Src Proofs.Tryz.prog 1 80 (.slice (some ⟨w.heap.size, 0, none⟩) 1 1) 1 [.string x] (w.alloc (.cells #[.string x] 9)) := by
    refine Src.ofSlice _ (e' := 9) (by kernel_rfl) ⟨w.heap.size, 0, none⟩ 1 1 _ (by simp) ?_ ?_
    · intro j u hj
      have hgn := get_alloc_new w (.cells #[.string x] 9)
      rw [List.getElem?_toArray.symm] at hj
      simp only [World.cell?, Addr.add_lit, Nat.zero_add, hgn]
      exact hj
    · intro u hu
      rw [List.mem_singleton.1 hu]; rfl
  obtain ⟨v', w', hr, ho, hm, hb⟩ := run_append_mine (P := Proofs.Tryz.prog) w.heap.size 80 80 ty 9 i _ 1 (by kernel_rfl) hi hi1 hi2.1 rfl (by decide) (.slice none 0 0) 0 [] (World.ownsRow_nil _ _ _ 1) _ 1 _ hsrc (by simp [maxLen]) (by rw [hi2.2]; omega) hm1.size
  exact ⟨v', w', hr, ho, hm1.then hm (fun k _ hk => by simp [Value.ownBlock] at hk)⟩

/-- list of the one number 5. -/
theorem list178_c (g c : Nat) (cur : Array Value) (t : TypeId) (f : Nat × Nat) (w : World) (K : Value → World → Prop) (hg : w.heap[g]? = some (.cells cur t f)) (hc : cur[0]? = some (.int .u64 5))
    (h : ∀ w', Mod (fun _ => False) w w' → K (.string ⟨#[91, 53, 93]⟩) w') : Ok Proofs.Tryz.prog 178 #[.slice (some ⟨g, 0, none⟩) 1 c] w K := by
  refine F178.enter (args := [_]) (by simp) ?_
  unfold c178 r178
  simp only [vc_seq, vc_block, vc_ops, vcOps_nil, vcOps_cons, goL_apply, thenQ_normal, upd_same, upd_other, updO_some, ev_tmp, ev_const, initE_at, insVc, lenLK, ne_eq, not_false_eq_true, reduceCtorEq, Option.getD_some, List.getElem?_cons_zero]
  have hd : Lib.decDigits 5 = [53] := by unfold Lib.decDigits; rfl
  have l01 : ((0 : Int) < ((1 : Nat) : Int)) := by decide
  have l11 : ¬ ((1 : Int) < ((1 : Nat) : Int)) := by decide
  have wr : IntKind.i64.wrap 1 = 1 := by decide
  refine vc_loop (fun mm ρ ds u => ds = [] ∧ Mod (fun _ => False) w u ∧ ρ 7 = .int .i64 ((1 : Nat) : Int) ∧ ρ 6 = .slice (some ⟨g, 0, none⟩) 1 c ∧
    ((mm = 1 ∧ ρ 8 = .int .i64 0 ∧ ρ 3 = .slice none 0 0 ∧ u = w) ∨ (mm = 0 ∧ ρ 8 = .int .i64 1 ∧ u.ownsRow w.heap.size 9 1 (ρ 3) 1 [.string ⟨#[53]⟩]))) 1 ?_ ?_
  · refine ⟨rfl, Mod.refl _ _, ?_, ?_, .inl ⟨rfl, ?_, ?_, rfl⟩⟩ <;> simp only [upd_same, upd_other, ne_eq, not_false_eq_true, Nat.reduceEqDiff]
  · rintro mm ρ ds u ⟨rfl, hm, h7, h6, ⟨rfl, h8, h3, rfl⟩ | ⟨rfl, h8, h3⟩⟩
    · simp only [vc_skip, vc_seq, vc_cond, vc_block, vc_ops, vcOps_nil, vcOps_cons, goL_apply, thenQ_normal, condP_true, upd_same, upd_other, updO_some, ev_tmp, insVc, load1K, loadO_cells, loadV_some, iopK, iopV, iaddrK, ne_eq, not_false_eq_true, Nat.reduceEqDiff, reduceCtorEq, List.map_cons, List.map_nil, true_and, or_false, and_self, Nat.add_zero, decide_true, Int.reduceLE, Int.reduceToNat, Nat.mul_one, h7, h8, h6, l01, hg, hc, h3]
      refine num177_c 5 (by decide) u _ ?_
      rw [hd]
      obtain ⟨v', w', hr, ho, hm'⟩ := append_str0 ⟨#[53]⟩ u 80
      simp only [vcOps_cons, goL_apply, upd_same, updO_some, ev_tmp, insVc, fillL, buildSK, Value.cells, Nat.reduceLeDiff, List.size_toArray, List.length_cons, List.length_nil, List.zipIdx_cons, List.zipIdx_nil, List.foldl_cons, List.foldl_nil, List.setIfInBounds_toArray, List.set_cons_zero, List.toList_toArray, and_self, if_true, Nat.zero_add]
      refine rawK_append rfl rfl rfl (by simp only [upd_same, upd_other, ev_tmp, ne_eq, not_false_eq_true, Nat.reduceEqDiff]; exact hr) ?_
      simp only [vc_ops, vcOps_nil, vcOps_cons, goL_apply, thenQ_normal, blockQ_normal, upd_same, upd_other, updO_some, ev_tmp, ev_const, insVc, loadV_some, iopK, iopV, ne_eq, not_false_eq_true, Nat.reduceEqDiff, reduceCtorEq, true_and, or_false, Int.reduceAdd, h7, h8, h6, wr]
      exact ⟨0, by omega, hm', .inr ⟨rfl, ho⟩⟩
    · simp only [vc_seq, vc_cond, vc_exit, vc_ops, vcOps_nil, vcOps_cons, goL_apply, thenQ_normal, thenQ_exit, blockQ_same, condP_false, upd_same, upd_other, updO_some, ev_tmp, ev_const, insVc, loadV_some, iopK, iopV, ne_eq, not_false_eq_true, Nat.reduceEqDiff, reduceCtorEq, List.map_cons, List.map_nil, true_and, or_false, decide_false, h7, h8, l11]
      rcases h3.2 with ⟨_, hx⟩ | ⟨b, cap, cu, hv, hB, hb, hn, _, hcs, htk⟩
      · cases hx
      rw [hv]
      have hc0 : ∀ (j : Nat) (x : ByteArray), [(⟨#[53]⟩ : ByteArray)][j]? = some x → cu[j]? = some (.string x) := by
        intro j x hj
        have h1 : (cu.toList.take (1 * 1))[0]? = some (.string ⟨#[53]⟩) := by rw [htk]; rfl
        match j, hj with
        | 0, hj =>
          have : x = ⟨#[53]⟩ := by simpa using hj.symm
          rw [this]
          rw [List.getElem?_take] at h1
          simpa using h1
        | j + 1, hj => simp at hj
      have hjn : Lib.join ([(⟨#[53]⟩ : ByteArray)].map (·.data.toList)) [32] = [53] := by rfl
      refine join_c b [⟨#[53]⟩] ⟨#[32]⟩ cap cu 9 (0, 0) u _ hb hc0 hn (by simp) (by rw [hjn]; simp) ?_
      intro w' hm'
      rw [hjn]
      have x1 : ¬ ((((⟨#[91]⟩ : ByteArray).size + (⟨[53].toArray⟩ : ByteArray).size : Nat) : Int) > IntKind.i64.max) := by decide
      have x2 : ¬ (((((⟨#[91]⟩ : ByteArray) ++ (⟨[53].toArray⟩ : ByteArray)).size + (⟨#[93]⟩ : ByteArray).size : Nat) : Int) > IntKind.i64.max) := by decide
      have x3 : ((⟨#[91]⟩ : ByteArray) ++ (⟨[53].toArray⟩ : ByteArray)) ++ (⟨#[93]⟩ : ByteArray) = ⟨#[91, 53, 93]⟩ := by decide
      simp only [vc_ret, vcOps_nil, vcOps_cons, goL_apply, thenQ_normal, upd_same, updO_some, ev_tmp, ev_const, endQ_ret, endK, resK, packed, insVc, loadV_some, sopK, sopV, List.nil_append, if_false, x1, x2, x3]
      exact h w' (hm.trans hm')

end Go.Oct
