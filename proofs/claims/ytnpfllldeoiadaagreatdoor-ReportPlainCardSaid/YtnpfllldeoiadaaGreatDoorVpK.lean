import Derived.Test.YtnpfllldeoiadaaGreatDoorVpI
import Derived.Test.YtnpfllldeoiadaaGreatDoorTryzShelf
set_option linter.unusedSimpArgs false
set_option linter.unusedVariables false
set_option linter.unusedSectionVars false
set_option linter.unnecessarySimpa false
namespace Go.Oct
open Go Go.Vc Go.VrA Go.VrB
set_option maxRecDepth 100000

/-! ### report: numbers, rows, lists -/

theorem num177_c (n : Nat) (hn : n < 100) (w : World) (K : Value → World → Prop) (h : K (.string ⟨(Lib.decDigits n).toArray⟩) w) : Ok Proofs.Tryz.prog 26 #[.int .u64 n] w K := by
  refine F26.enter (args := [.int .u64 n]) (by simp) ?_
  unfold c26 r26
  simp only [vc_seq, vc_ops, vcOps_nil, vcOps_cons, goL_apply, thenQ_normal, upd_same, upd_other, updO_some, ev_tmp, ev_const, initE_at, insVc, ne_eq, not_false_eq_true, reduceCtorEq, Option.getD_some, List.map_cons, List.map_nil, List.getElem?_cons_zero]
  refine F48.enter (args := [.int .u64 n, .int .i64 10]) (by simp) ?_
  unfold c48 r48
  simp only [vc_seq, vc_ops, vcOps_nil, vcOps_cons, goL_apply, thenQ_normal, upd_same, upd_other, updO_some, ev_tmp, ev_const, initE_at, insVc, ne_eq, not_false_eq_true, Nat.reduceEqDiff, reduceCtorEq, Option.getD_some, List.map_cons, List.map_nil, List.getElem?_cons_zero, List.getElem?_cons_succ]
  refine F58.enter (args := [.int .u64 n, .int .i64 10]) (by simp) ?_
  unfold c58 r58
  have h1 : ((n : Nat) : Int) < 100 := by omega
  have h2 : IntKind.i64.wrap (n : Int) = n := wrap_i64 _ (by omega)
  have h3 : ((10 : Int) == 10) = true := rfl
  simp only [vc_seq, vc_cond, vc_ops, vcOps_nil, vcOps_cons, goL_apply, thenQ_normal, condP_true, upd_same, upd_other, updO_some, ev_tmp, ev_const, initE_at, insVc, loadV_some, iopK, iopV, convK, ne_eq, not_false_eq_true, Nat.reduceEqDiff, reduceCtorEq, Option.getD_some, List.map_cons, List.map_nil, List.getElem?_cons_zero, List.getElem?_cons_succ, true_and, or_false, decide_true, h1, h2, h3]
  refine ok_of_calls (by kernel_rfl) (Go.Proofs.Tryz.internal_strconv_small n hn w) ?_
  rintro e w' ⟨rfl, rfl⟩
  refine ⟨_, rfl, ?_⟩
  simp only [vc_ret, vcOps_nil, vcOps_cons, goL_apply, thenQ_normal, thenQ_ret, upd_same, updO_some, ev_tmp, endQ_ret, endK, resK, packed, insVc, List.nil_append]
  exact h

theorem join_c (bk : Nat) (xs : List ByteArray) (sep : ByteArray) (c : Nat) (cur : Array Value) (t : TypeId) (f : Nat × Nat) (w : World) (K : Value → World → Prop) (hb : w.heap[bk]? = some (.cells cur t f)) (hcur : ∀ (j : Nat) x, xs[j]? = some x → cur[j]? = some (.string x)) (hc : xs.length ≤ c) (hN : xs.length ≤ 140737488355328)
    (hlen : (Lib.join (xs.map (·.data.toList)) sep.data.toList).length ≤ 140737488355328)
    (h : ∀ w', Mod (fun _ => False) w w' → K (.string ⟨(Lib.join (xs.map (·.data.toList)) sep.data.toList).toArray⟩) w') : Ok Proofs.Tryz.prog 44 #[.slice (some ⟨bk, 0, none⟩) xs.length c, .string sep] w K := by
  refine ok_of_calls (by kernel_rfl) (Go.Proofs.Tryz.strings_Join bk 0 c xs sep w ?_ (lt_of_get hb) hN hc hlen) ?_
  · intro j x hj
    simp [World.cell?, hb, hcur j x hj]
  · rintro e w' ⟨rfl, hlo⟩
    exact ⟨_, rfl, h w' (Mod.of_below hlo)⟩

theorem row175_c (bk : Nat) (xs : List ByteArray) (c : Nat) (cur : Array Value) (t : TypeId) (f : Nat × Nat) (w : World) (K : Value → World → Prop) (hb : w.heap[bk]? = some (.cells cur t f)) (hcur : ∀ (j : Nat) x, xs[j]? = some x → cur[j]? = some (.string x)) (hc : xs.length ≤ c) (hN : xs.length ≤ 140737488355328)
    (hlen : (Lib.join (xs.map (·.data.toList)) [32]).length ≤ 140737488355328)
    (h : ∀ w', Mod (fun _ => False) w w' → K (.string ⟨(Lib.join (xs.map (·.data.toList)) [32]).toArray⟩) w') : Ok Proofs.Tryz.prog 23 #[.slice (some ⟨bk, 0, none⟩) xs.length c] w K := by
  refine F23.enter (args := [_]) (by simp) ?_
  unfold c23 r23
  simp only [vc_seq, vc_ops, vcOps_nil, vcOps_cons, goL_apply, thenQ_normal, upd_same, upd_other, updO_some, ev_tmp, ev_const, initE_at, insVc, ne_eq, not_false_eq_true, reduceCtorEq, Option.getD_some, List.map_cons, List.map_nil, List.getElem?_cons_zero]
  refine join_c bk xs ⟨#[32]⟩ c cur t f w _ hb hcur hc hN hlen ?_
  intro w' hm
  simp only [vc_ret, vcOps_nil, vcOps_cons, goL_apply, thenQ_normal, upd_same, updO_some, ev_tmp, endQ_ret, endK, resK, packed, insVc, List.nil_append]
  exact h w' hm

theorem info_str : (Proofs.Tryz.prog.info? 9).map (fun i => (i.zero, i.size, i.bytes)) = some (some (.string ⟨#[]⟩), 1, 16) := by kernel_rfl

theorem append_str0 (x : ByteArray) (w : World) (ty : TypeId) :
    ∃ v' w', (Builtin.append_ #[57, 57] ty #[.slice none 0 0, .slice (some ⟨w.heap.size, 0, none⟩) 1 1]).run Proofs.Tryz.prog (w.alloc (.cells #[.string x] 9)) = .ok v' w' ∧
      w'.ownsRow w.heap.size 9 1 v' 1 [.string x] ∧ Mod (fun _ => False) w w' := by
  obtain ⟨i, hi, hi1, hi2⟩ := info_of info_str
  have hm1 : Mod (fun _ => False) w (w.alloc (.cells #[.string x] 9)) := (Mod.refl _ _).alloc _
  have hsrc : Src Proofs.Tryz.prog 1 57 (.slice (some ⟨w.heap.size, 0, none⟩) 1 1) 1 [.string x] (w.alloc (.cells #[.string x] 9)) := by
    refine Src.ofSlice _ (e' := 9) (by kernel_rfl) ⟨w.heap.size, 0, none⟩ 1 1 _ (by simp) ?_ ?_
    · intro j u hj
      have hgn := get_alloc_new w (.cells #[.string x] 9)
      rw [List.getElem?_toArray.symm] at hj
      simp only [World.cell?, Addr.add_lit, Nat.zero_add, hgn]
      exact hj
    · intro u hu
      rw [List.mem_singleton.1 hu]; rfl
  obtain ⟨v', w', hr, ho, hm, hb⟩ := run_append_mine (P := Proofs.Tryz.prog) w.heap.size 57 57 ty 9 i _ 1 (by kernel_rfl) hi hi1 hi2.1 rfl (by decide) (.slice none 0 0) 0 [] (World.ownsRow_nil _ _ _ 1) _ 1 _ hsrc (by simp [maxLen]) (by rw [hi2.2]; omega) hm1.size
  exact ⟨v', w', hr, ho, hm1.then hm (fun k _ hk => by simp [Value.ownBlock] at hk)⟩

/-- list of the one number 5. -/
theorem list178_c (g c : Nat) (cur : Array Value) (t : TypeId) (f : Nat × Nat) (w : World) (K : Value → World → Prop) (hg : w.heap[g]? = some (.cells cur t f)) (hc : cur[0]? = some (.int .u64 5))
    (h : ∀ w', Mod (fun _ => False) w w' → K (.string ⟨#[91, 53, 93]⟩) w') : Ok Proofs.Tryz.prog 31 #[.slice (some ⟨g, 0, none⟩) 1 c] w K := by
  refine F31.enter (args := [_]) (by simp) ?_
  unfold c31 r31
  simp only [vc_seq, vc_block, vc_ops, vcOps_nil, vcOps_cons, goL_apply, thenQ_normal, upd_same, upd_other, updO_some, ev_tmp, ev_const, initE_at, insVc, lenLK, ne_eq, not_false_eq_true, reduceCtorEq, Option.getD_some, List.getElem?_cons_zero]
  have hd : Lib.decDigits 5 = [53] := by unfold Lib.decDigits; rfl
  have l01 : ((0 : Int) < ((1 : Nat) : Int)) := by decide
  have l11 : ¬ ((1 : Int) < ((1 : Nat) : Int)) := by decide
  have wr : IntKind.i64.wrap 1 = 1 := by decide
  refine vc_loop (fun mm ρ ds u => ds = [] ∧ Mod (fun _ => False) w u ∧ ρ 7 = .int .i64 ((1 : Nat) : Int) ∧ ρ 6 = .slice (some ⟨g, 0, none⟩) 1 c ∧
    ((mm = 1 ∧ ρ 8 = .int .i64 0 ∧ ρ 3 = .slice none 0 0 ∧ u = w) ∨ (mm = 0 ∧ ρ 8 = .int .i64 1 ∧ u.ownsRow w.heap.size 9 1 (ρ 3) 1 [.string ⟨#[53]⟩]))) 1 ?_ ?_
  · refine ⟨rfl, Mod.refl _ _, ?_, ?_, .inl ⟨rfl, ?_, ?_, rfl⟩⟩ <;> simp only [upd_same, upd_other, ne_eq, not_false_eq_true, Nat.reduceEqDiff]
  · rintro mm ρ ds u ⟨rfl, hm, h7, h6, ⟨rfl, h8, h3, rfl⟩ | ⟨rfl, h8, h3⟩⟩
    · simp only [vc_skip, vc_seq, vc_cond, vc_block, vc_ops, vcOps_nil, vcOps_cons, goL_apply, thenQ_normal, condP_true, upd_same, upd_other, updO_some, ev_tmp, insVc, load1K, loadO_cells, loadV_some, iopK, iopV, iaddrK, ne_eq, not_false_eq_true, Nat.reduceEqDiff, reduceCtorEq, List.map_cons, List.map_nil, true_and, or_false, and_self, Nat.add_zero, decide_true, Int.reduceLE, Int.reduceToNat, Nat.mul_one, h7, h8, h6, l01, hg, hc, h3]
      refine num177_c 5 (by decide) u _ ?_
      rw [hd]
      obtain ⟨v', w', hr, ho, hm'⟩ := append_str0 ⟨#[53]⟩ u 57
      simp only [vcOps_cons, goL_apply, upd_same, updO_some, ev_tmp, insVc, fillL, buildSK, Value.cells, Nat.reduceLeDiff, List.size_toArray, List.length_cons, List.length_nil, List.zipIdx_cons, List.zipIdx_nil, List.foldl_cons, List.foldl_nil, List.setIfInBounds_toArray, List.set_cons_zero, List.toList_toArray, and_self, if_true, Nat.zero_add]
      refine rawK_append rfl rfl rfl (by simp only [upd_same, upd_other, ev_tmp, ne_eq, not_false_eq_true, Nat.reduceEqDiff]; exact hr) ?_
      simp only [vc_ops, vcOps_nil, vcOps_cons, goL_apply, thenQ_normal, blockQ_normal, upd_same, upd_other, updO_some, ev_tmp, ev_const, insVc, loadV_some, iopK, iopV, ne_eq, not_false_eq_true, Nat.reduceEqDiff, reduceCtorEq, true_and, or_false, Int.reduceAdd, h7, h8, h6, wr]
      exact ⟨0, by omega, hm', .inr ⟨rfl, ho⟩⟩
    · simp only [vc_seq, vc_cond, vc_exit, vc_ops, vcOps_nil, vcOps_cons, goL_apply, thenQ_normal, thenQ_exit, blockQ_same, condP_false, upd_same, upd_other, updO_some, ev_tmp, ev_const, insVc, loadV_some, iopK, iopV, ne_eq, not_false_eq_true, Nat.reduceEqDiff, reduceCtorEq, List.map_cons, List.map_nil, true_and, or_false, decide_false, h7, h8, l11]
      rcases h3.2 with ⟨_, hx⟩ | ⟨b, cap, cu, hv, hB, hb, hn, _, hcs, htk⟩
      · cases hx
      rw [hv]
      have hc0 : ∀ (j : Nat) (x : ByteArray), [(⟨#[53]⟩ : ByteArray)][j]? = some x → cu[j]? = some (.string x) := by
        intro j x hj
        have h1 : (cu.toList.take (1 * 1))[0]? = some (.string ⟨#[53]⟩) := by rw [htk]; rfl
        match j, hj with
        | 0, hj =>
          have : x = ⟨#[53]⟩ := by simpa using hj.symm
          rw [this]
          rw [List.getElem?_take] at h1
          simpa using h1
        | j + 1, hj => simp at hj
      have hjn : Lib.join ([(⟨#[53]⟩ : ByteArray)].map (·.data.toList)) [32] = [53] := by rfl
      refine join_c b [⟨#[53]⟩] ⟨#[32]⟩ cap cu 9 (0, 0) u _ hb hc0 hn (by simp) (by rw [hjn]; simp) ?_
      intro w' hm'
      rw [hjn]
      have x1 : ¬ ((((⟨#[91]⟩ : ByteArray).size + (⟨[53].toArray⟩ : ByteArray).size : Nat) : Int) > IntKind.i64.max) := by decide
      have x2 : ¬ (((((⟨#[91]⟩ : ByteArray) ++ (⟨[53].toArray⟩ : ByteArray)).size + (⟨#[93]⟩ : ByteArray).size : Nat) : Int) > IntKind.i64.max) := by decide
      have x3 : ((⟨#[91]⟩ : ByteArray) ++ (⟨[53].toArray⟩ : ByteArray)) ++ (⟨#[93]⟩ : ByteArray) = ⟨#[91, 53, 93]⟩ := by decide
      simp only [vc_ret, vcOps_nil, vcOps_cons, goL_apply, thenQ_normal, upd_same, updO_some, ev_tmp, ev_const, endQ_ret, endK, resK, packed, insVc, loadV_some, sopK, sopV, List.nil_append, if_false, x1, x2, x3]
      exact h w' (hm.trans hm')

end Go.Oct

namespace Go.Oct
open Go Go.Vc Go.VrA Go.VrB
set_option maxRecDepth 100000

/-! ### report.Reply at the example -/

def okT : ByteArray := ⟨#[111, 107, 32, 49]⟩
def okT2 : ByteArray := ⟨#[111, 107, 32, 49, 32, 105, 100, 115, 32, 91, 53, 93]⟩

theorem reply_c (g : Nat) (w : World) (K : Value → World → Prop) (hg : w.heap[g]? = some (.cells #[.int .u64 5] 23 (0, 0))) (h : ∀ w', Mod (fun _ => False) w w' → K (.string okT2) w') :
    Ok Proofs.Tryz.prog 13 #[.agg #[.int .i64 0, .int .u64 1, .slice (some ⟨g, 0, none⟩) 1 1, .slice none 0 0, .slice none 0 0, .slice none 0 0]] w K := by
  refine F13.enter (args := [_]) (by simp) ?_
  unfold c13 r13
  have z00 : ((0 : Int) != 0) = false := rfl
  simp only [vc_skip, vc_seq, vc_cond, vc_ops, vcOps_nil, vcOps_cons, goL_apply, thenQ_normal, condP_false, upd_same, upd_other, updO_some, ev_tmp, ev_const, initE_at, insVc, load1K, loadO_cells, loadV_some, iopK, iopV, faddrK, Value.cells, ne_eq, not_false_eq_true, Nat.reduceEqDiff, reduceCtorEq, Option.getD_some, List.map_cons, List.map_nil, List.getElem?_cons_zero, List.getElem?_cons_succ, List.getElem?_toArray, true_and, or_false, if_true, Nat.zero_add, Nat.add_zero, get_alloc, Nat.reduceEqDiff, z00]
  refine callK_gen ?_
  intro w1 hw1
  have hm1 : Mod (fun _ => False) w w1 := by rw [hw1]; exact (Mod.refl _ _).alloc _
  have e1 : w1.heap[w.heap.size]? = some (.cells #[.int .i64 0, .int .u64 1, .slice (some ⟨g, 0, none⟩) 1 1, .slice none 0 0, .slice none 0 0, .slice none 0 0] 27 (0, 0)) := by rw [hw1]; exact get_alloc_new _ _
  clear hw1
  have hd1 : Lib.decDigits 1 = [49] := by unfold Lib.decDigits; rfl
  refine num177_c 1 (by decide) w1 _ ?_
  rw [hd1]
  simp only [vcOps_cons, goL_apply, upd_same, updO_some, ev_tmp, ev_const, insVc, fillL, buildSK, Value.cells, Nat.reduceAdd, Nat.reduceLeDiff, List.map_cons, List.map_nil, List.size_toArray, List.length_cons, List.length_nil, List.zipIdx_cons, List.zipIdx_nil, List.foldl_cons, List.foldl_nil, List.setIfInBounds_toArray, List.set_cons_zero, List.set_cons_succ, List.toList_toArray, and_self, if_true, Nat.zero_add, Nat.add_zero]
  refine callK_gen ?_
  intro w2 hw2
  have hm2 : Mod (fun _ => False) w1 w2 := by rw [hw2]; exact (Mod.refl _ _).alloc _
  have s2 : w2.heap[w1.heap.size]? = some (.cells #[.string ⟨#[111, 107]⟩, .string ⟨[49].toArray⟩] 9 (0, 0)) := by rw [hw2]; exact get_alloc_new _ _
  clear hw2
  have hj : Lib.join ([(⟨#[111, 107]⟩ : ByteArray), ⟨[49].toArray⟩].map (·.data.toList)) [32] = [111, 107, 32, 49] := by rfl
  refine row175_c w1.heap.size [⟨#[111, 107]⟩, ⟨[49].toArray⟩] 2 _ _ _ w2 _ s2 ?_ (by simp) (by simp) (by rw [hj]; simp) ?_
  · intro j x hx
    match j, hx with
    | 0, hx => have : x = ⟨#[111, 107]⟩ := by simpa using hx.symm
               rw [this]; rfl
    | 1, hx => have : x = ⟨[49].toArray⟩ := by simpa using hx.symm
               rw [this]; rfl
    | j + 2, hx => simp at hx
  rw [hj]
  intro w3 hm3
  have hm23 := hm2.trans hm3
  have e3 := hm23.keep e1 id
  have hm13 := hm1.trans hm23
  have lw := lt_of_get e3
  simp only [vc_seq, vc_block, vc_ops, vcOps_nil, vcOps_cons, goL_apply, thenQ_normal, upd_same, upd_other, updO_some, ev_tmp, ev_const, insVc, load1K, loadO_cells, loadV_some, faddrK, lenLK, buildK, fillL, buildSK, Value.cells, ne_eq, not_false_eq_true, Nat.reduceEqDiff, Nat.reduceAdd, Nat.reduceLeDiff, List.getElem?_cons_zero, List.getElem?_cons_succ, List.getElem?_toArray, List.size_toArray, List.length_cons, List.length_nil, List.zipIdx_cons, List.zipIdx_nil, List.foldl_cons, List.foldl_nil, List.setIfInBounds_toArray, List.set_cons_zero, List.set_cons_succ, List.toList_toArray, and_self, if_true, Nat.zero_add, Nat.add_zero, e3]
  refine vc_gen ?_
  intro w4 hw4
  have hm4 : Mod (fun _ => False) w3 w4 := by rw [hw4]; exact (Mod.refl _ _).alloc _
  have s4 : w4.heap[w3.heap.size]? = some (.cells #[.string ⟨#[105, 100, 115]⟩, .slice (some ⟨g, 0, none⟩) 1 1, .string ⟨#[108, 111, 115, 116]⟩, .slice none 0 0, .string ⟨#[100, 101, 97, 100]⟩, .slice none 0 0] 67 (0, 0)) := by rw [hw4]; exact get_alloc_new _ _
  clear hw4
  have hm14 := hm13.trans hm4
  have g4 := hm14.keep hg id
  have e4 := hm4.keep e3 id
  have r0 : ((0 : Int) < ((3 : Nat) : Int)) := by decide
  have r1 : ((1 : Int) < ((3 : Nat) : Int)) := by decide
  have r2 : ((2 : Int) < ((3 : Nat) : Int)) := by decide
  have r3 : ¬ ((3 : Int) < ((3 : Nat) : Int)) := by decide
  have k1 : IntKind.i64.wrap 1 = 1 := by decide
  have k2 : IntKind.i64.wrap 2 = 2 := by decide
  have k3 : IntKind.i64.wrap 3 = 3 := by decide
  have n1 : ((((1 : Nat) : Int)) > 0) := by decide
  have n0 : ¬ ((((0 : Nat) : Int)) > 0) := by decide
  have i1 : ((0 : Int) ≤ 1 ∧ (1 : Int) < ((3 : Nat) : Int)) := by decide
  have i2 : ((0 : Int) ≤ 2 ∧ (2 : Int) < ((3 : Nat) : Int)) := by decide
  have i0 : ((0 : Int) ≤ 0 ∧ (0 : Int) < ((3 : Nat) : Int)) := by decide
  refine vc_loop (fun mm ρ ds u => ds = [] ∧ Mod (fun _ => False) w u ∧ ρ 1 = ptr w.heap.size ∧ ρ 30 = .slice (some ⟨w3.heap.size, 0, none⟩) 3 3 ∧ ρ 31 = .int .i64 ((3 : Nat) : Int) ∧
    u.heap[w3.heap.size]? = some (.cells #[.string ⟨#[105, 100, 115]⟩, .slice (some ⟨g, 0, none⟩) 1 1, .string ⟨#[108, 111, 115, 116]⟩, .slice none 0 0, .string ⟨#[100, 101, 97, 100]⟩, .slice none 0 0] 67 (0, 0)) ∧
    u.heap[w.heap.size]? = some (.cells #[.int .i64 0, .int .u64 1, .slice (some ⟨g, 0, none⟩) 1 1, .slice none 0 0, .slice none 0 0, .slice none 0 0] 27 (0, 0)) ∧ u.heap[g]? = some (.cells #[.int .u64 5] 23 (0, 0)) ∧
    ((mm = 3 ∧ ρ 32 = .int .i64 0 ∧ ρ 3 = .string okT) ∨ (mm = 2 ∧ ρ 32 = .int .i64 1 ∧ ρ 3 = .string okT2) ∨ (mm = 1 ∧ ρ 32 = .int .i64 2 ∧ ρ 3 = .string okT2) ∨ (mm = 0 ∧ ρ 32 = .int .i64 3 ∧ ρ 3 = .string okT2))) 3 ?_ ?_
  · refine ⟨rfl, hm14, ?_, ?_, ?_, s4, e4, g4, .inl ⟨rfl, ?_, ?_⟩⟩ <;> simp only [upd_same, upd_other, ne_eq, not_false_eq_true, Nat.reduceEqDiff]
    rfl
  · rintro mm ρ ds u ⟨rfl, hmu, h1, h30, h31, hs, he, hgu, hcase⟩
    have f1 : ¬ w3.heap.size = u.heap.size := by have := lt_of_get hs; omega
    have f2 : ¬ w.heap.size = u.heap.size := by have := lt_of_get he; omega
    have f3 : ¬ g = u.heap.size := by have := lt_of_get hgu; omega
    have hmx : ∀ cs, Mod (fun _ => False) u (Vc.set (u.alloc cs) u.heap.size cs) := fun cs => ((Mod.refl _ _).alloc _).set (.inl (Nat.le_refl _))
    have hmx2 : ∀ cs cs', Mod (fun _ => False) w (Vc.set (u.alloc cs) u.heap.size cs') := fun cs cs' => (hmu.alloc _).set (.inl hmu.size)
    rcases hcase with ⟨rfl, h32, h3⟩ | ⟨rfl, h32, h3⟩ | ⟨rfl, h32, h3⟩ | ⟨rfl, h32, h3⟩
    · simp only [vc_skip, vc_seq, vc_cond, vc_block, vc_ops, vcOps_nil, vcOps_cons, goL_apply, thenQ_normal, condP_true, upd_same, upd_other, updO_some, updO_none, ev_tmp, ev_const, insVc, load1K, loadO_cells, loadV_some, loadNK, loadNO_cells, storeNK, storeNO_cells, setMany, iopK, iopV, faddrK, iaddrK, lenLK, isPlain, Value.cells, ne_eq, not_false_eq_true, Nat.reduceEqDiff, Nat.reduceAdd, Nat.reduceLeDiff, reduceCtorEq, List.getElem?_cons_zero, List.getElem?_cons_succ, List.getElem?_toArray, List.size_toArray, List.length_cons, List.length_nil, List.setIfInBounds_toArray, List.set_cons_zero, List.set_cons_succ, true_and, or_false, and_self, if_true, Nat.zero_add, Nat.add_zero, decide_true, Bool.and_true, Int.reduceToNat, List.extract_toArray, List.extract_eq_take_drop, List.drop_zero, List.take_zero, List.take_succ_cons, Nat.sub_zero, Nat.zero_mul, List.all_toArray', List.all_cons, List.all_nil, size_alloc, get_set_same, Nat.lt_add_one, h30, h31, h32, r0, i0, hs, get_alloc, size_alloc, Nat.reduceAdd, Nat.reduceEqDiff, n1]
      refine vc_gen ?_
      intro w5 hw5
      have hm5 : Mod (fun _ => False) u w5 := by rw [hw5]; exact ((Mod.refl _ _).alloc _).set (.inl (Nat.le_refl _))
      have x5 : w5.heap[u.heap.size]? = some (.cells #[.string ⟨#[105, 100, 115]⟩, .slice (some ⟨g, 0, none⟩) 1 1] 67 (0, 0)) := by rw [hw5]; simp only [size_alloc, get_set_same, Nat.lt_add_one, size_alloc]
      clear hw5
      have g5 := hm5.keep hgu id
      have s5 := hm5.keep hs id
      have e5 := hm5.keep he id
      refine draw_d (fun W => W.heap[u.heap.size]? = some (.cells #[.string ⟨#[105, 100, 115]⟩, .slice (some ⟨g, 0, none⟩) 1 1] 67 (0, 0))) (by kernel_rfl) (by kernel_rfl) (by kernel_rfl) (by kernel_rfl) x5 ?_
      simp only [vc_ops, vcOps_nil, vcOps_cons, goL_apply, thenQ_normal, blockQ_normal, upd_same, upd_other, updO_some, ev_tmp, ev_const, insVc, loadV_some, iopK, iopV, faddrK, fillL, buildSK, Value.cells, ne_eq, not_false_eq_true, Nat.reduceEqDiff, Nat.reduceAdd, Nat.reduceLeDiff, reduceCtorEq, List.map_cons, List.map_nil, List.size_toArray, List.length_cons, List.length_nil, List.zipIdx_cons, List.zipIdx_nil, List.foldl_cons, List.foldl_nil, List.setIfInBounds_toArray, List.set_cons_zero, List.toList_toArray, true_and, and_true, or_false, if_true, if_false, Bool.false_eq_true, Nat.zero_add, Nat.add_zero, pureI, vcD_nil, vcD_cons, stepD_pure, stepD_load, stepD_step, kindI, loadI, h3]
      refine loadD1 (b := u.heap.size) (o := 0) (v := .string ⟨#[105, 100, 115]⟩) rfl (fun W hW => ⟨_, _, _, hW, rfl⟩) ?_
      refine loadD1 (b := u.heap.size) (o := 1) (v := .slice (some ⟨g, 0, none⟩) 1 1) rfl (fun W hW => ⟨_, _, _, hW, rfl⟩) ?_
      refine list178_c g 1 _ _ _ w5.drew _ g5 rfl ?_
      intro w6 hm6
      have x6 := hm6.keep (show w5.drew.heap[u.heap.size]? = _ from x5) id
      refine ⟨x6, ?_⟩
      simp only [Nat.reduceAdd, Nat.reduceLeDiff, List.size_toArray, List.length_cons, List.length_nil, List.zipIdx_cons, List.zipIdx_nil, List.foldl_cons, List.foldl_nil, List.setIfInBounds_toArray, List.set_cons_zero, List.set_cons_succ, and_self, if_true, Nat.zero_add, Nat.add_zero]
      refine ⟨by rw [get_alloc_old _ _ _ (lt_of_get x6)]; exact x6, ?_⟩
      have hj2 : Lib.join ([okT, (⟨#[105, 100, 115]⟩ : ByteArray), ⟨#[91, 53, 93]⟩].map (·.data.toList)) [32] = [111, 107, 32, 49, 32, 105, 100, 115, 32, 91, 53, 93] := by rfl
      have hm7 : Mod (fun _ => False) w6 (w6.alloc (.cells #[.string okT, .string ⟨#[105, 100, 115]⟩, .string ⟨#[91, 53, 93]⟩] 9)) := (Mod.refl _ _).alloc _
      refine row175_c w6.heap.size [okT, ⟨#[105, 100, 115]⟩, ⟨#[91, 53, 93]⟩] 3 _ _ _ _ _ (get_alloc_new _ _) ?_ (by simp) (by simp) (by rw [hj2]; simp) ?_
      · intro j x hx
        match j, hx with
        | 0, hx => have : x = okT := by simpa using hx.symm
                   rw [this]; rfl
        | 1, hx => have : x = ⟨#[105, 100, 115]⟩ := by simpa using hx.symm
                   rw [this]; rfl
        | 2, hx => have : x = ⟨#[91, 53, 93]⟩ := by simpa using hx.symm
                   rw [this]; rfl
        | j + 3, hx => simp at hx
      rw [hj2]
      intro w8 hm8
      have hm58 : Mod (fun _ => False) w5 w8 := (((Mod.refl _ w5).drew.trans hm6).trans hm7).trans hm8
      refine ⟨hm58.keep x5 id, ?_⟩
      simp only [true_and, Int.reduceAdd, h1, h30, h31, h32, k1]
      refine ⟨2, by omega, (hmu.trans hm5).trans hm58, hm58.keep s5 id, hm58.keep e5 id, hm58.keep g5 id, ?_⟩
      exact .inr (.inl ⟨rfl, rfl⟩)
    · simp only [vc_skip, vc_seq, vc_cond, vc_block, vc_ops, vcOps_nil, vcOps_cons, goL_apply, thenQ_normal, blockQ_normal, condP_true, condP_false, upd_same, upd_other, updO_some, updO_none, ev_tmp, ev_const, insVc, load1K, loadO_cells, loadV_some, loadNK, loadNO_cells, storeNK, storeNO_cells, setMany, iopK, iopV, faddrK, iaddrK, lenLK, isPlain, Value.cells, ne_eq, not_false_eq_true, Nat.reduceEqDiff, Nat.reduceAdd, Nat.reduceLeDiff, reduceCtorEq, List.getElem?_cons_zero, List.getElem?_cons_succ, List.getElem?_toArray, List.size_toArray, List.length_cons, List.length_nil, List.setIfInBounds_toArray, List.set_cons_zero, List.set_cons_succ, true_and, and_true, or_false, and_self, if_true, if_false, Nat.zero_add, decide_true, decide_false, Bool.and_true, Int.reduceToNat, Int.reduceAdd, List.extract_toArray, List.extract_eq_take_drop, List.drop_zero, List.drop_succ_cons, List.take_zero, List.take_succ_cons, Nat.one_mul, Nat.reduceSub, List.all_toArray', List.all_cons, List.all_nil, size_alloc, get_set_same, Nat.lt_add_one, h1, h3, h30, h31, h32, r1, i1, hs, he, hgu, get_alloc, get_set, size_alloc, Nat.reduceAdd, Nat.reduceEqDiff, n0, f1, f2, f3, k2]
      refine ⟨1, by omega, hmx2 _ _, ?_⟩
      simp
    · simp only [vc_skip, vc_seq, vc_cond, vc_block, vc_ops, vcOps_nil, vcOps_cons, goL_apply, thenQ_normal, blockQ_normal, condP_true, condP_false, upd_same, upd_other, updO_some, updO_none, ev_tmp, ev_const, insVc, load1K, loadO_cells, loadV_some, loadNK, loadNO_cells, storeNK, storeNO_cells, setMany, iopK, iopV, faddrK, iaddrK, lenLK, isPlain, Value.cells, ne_eq, not_false_eq_true, Nat.reduceEqDiff, Nat.reduceAdd, Nat.reduceLeDiff, reduceCtorEq, List.getElem?_cons_zero, List.getElem?_cons_succ, List.getElem?_toArray, List.size_toArray, List.length_cons, List.length_nil, List.setIfInBounds_toArray, List.set_cons_zero, List.set_cons_succ, true_and, and_true, or_false, and_self, if_true, if_false, Nat.zero_add, decide_true, decide_false, Bool.and_true, Int.reduceToNat, Int.reduceAdd, List.extract_toArray, List.extract_eq_take_drop, List.drop_zero, List.drop_succ_cons, List.take_zero, List.take_succ_cons, Nat.reduceMul, Nat.reduceSub, List.all_toArray', List.all_cons, List.all_nil, size_alloc, get_set_same, Nat.lt_add_one, h1, h3, h30, h31, h32, r2, i2, hs, he, hgu, get_alloc, get_set, size_alloc, Nat.reduceAdd, Nat.reduceEqDiff, n0, f1, f2, f3, k3]
      refine ⟨0, by omega, hmx2 _ _, ?_⟩
      simp
    · simp only [vc_seq, vc_cond, vc_block, vc_exit, vc_ops, vcOps_nil, vcOps_cons, goL_apply, thenQ_normal, thenQ_exit, blockQ_same, condP_false, upd_same, upd_other, updO_some, ev_tmp, ev_const, insVc, load1K, loadO_cells, loadV_some, iopK, iopV, faddrK, lenLK, ne_eq, not_false_eq_true, Nat.reduceEqDiff, reduceCtorEq, List.getElem?_cons_zero, List.getElem?_cons_succ, List.getElem?_toArray, true_and, or_false, Nat.zero_add, decide_false, h31, h32, r3, h1, he]
      refine vc_loop (fun _ ρ ds u' => ds = [] ∧ ρ 51 = .int .i64 ((0 : Nat) : Int) ∧ ρ 52 = .int .i64 0 ∧ ρ 3 = .string okT2 ∧ u' = u) 0 ?_ ?_
      · refine ⟨rfl, ?_, ?_, ?_, rfl⟩ <;> simp only [upd_same, upd_other, ne_eq, not_false_eq_true, Nat.reduceEqDiff, h3]
      · rintro _ ρ' ds' u' ⟨rfl, h51, h52, h3', rfl⟩
        have r9 : ¬ ((0 : Int) < ((0 : Nat) : Int)) := by decide
        simp only [vc_seq, vc_cond, vc_exit, vc_ret, vc_ops, vcOps_nil, vcOps_cons, goL_apply, thenQ_normal, thenQ_exit, blockQ_same, condP_false, upd_same, upd_other, updO_some, ev_tmp, endQ_ret, endK, resK, packed, insVc, loadV_some, iopK, iopV, ne_eq, not_false_eq_true, Nat.reduceEqDiff, reduceCtorEq, List.nil_append, true_and, or_false, decide_false, h51, h52, r9, h3']
        exact h u' hmu

theorem awake29_c (m : Int) (w : World) (K : Value → World → Prop) (hg : Gl m w) (h : ∀ w', Mod (fun _ => False) w w' → K (.bool true) w') : Ok Proofs.Tryz.prog 5 #[] w K := by
  refine F5.enter (args := []) (by simp) ?_
  unfold c5 r5
  simp only [vc_seq, vc_ops, vcOps_nil, vcOps_cons, goL_apply, thenQ_normal, updO_some, ev_const, insVc, List.map_nil]
  refine awake118_c m w _ hg ?_
  intro w1 hm1
  simp only [vcOps_cons, vcOps_gate, gateK_true, gate_true, goL_apply, upd_same, upd_other, updO_some, ev_tmp, ev_const, insVc, buildK, fillL, buildSK, Value.cells, ne_eq, not_false_eq_true, Nat.reduceEqDiff, Nat.reduceAdd, Nat.reduceLeDiff, List.map_cons, List.map_nil, List.size_toArray, List.length_cons, List.length_nil, List.zipIdx_cons, List.zipIdx_nil, List.foldl_cons, List.foldl_nil, List.setIfInBounds_toArray, List.set_cons_zero, List.set_cons_succ, List.toList_toArray, and_self, if_true, Nat.zero_add, Nat.add_zero]
  have hm2 : Mod (fun _ => False) w (w1.alloc (.cells #[.int .u64 5] 23)) := hm1.alloc _
  refine reply_c w1.heap.size _ _ (get_alloc_new _ _) ?_
  intro w3 hm3
  have e : (okT2.toList == (⟨#[111, 107, 32, 49, 32, 105, 100, 115, 32, 91, 53, 93]⟩ : ByteArray).toList) = true := by simp [okT2]
  simp only [vc_ret, vcOps_nil, vcOps_cons, vcOps_gate, gateK_true, gate_true, goL_apply, thenQ_normal, upd_same, upd_other, updO_some, ev_tmp, ev_const, endQ_ret, endK, resK, packed, insVc, pickK, loadV_some, sopK, sopV, ne_eq, not_false_eq_true, Nat.reduceEqDiff, List.nil_append, if_true, e]
  exact h w3 (hm2.trans hm3)

end Go.Oct
