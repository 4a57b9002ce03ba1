import Derived.Test.YtbkddpckkgbbmaaGreatDoorVzG
import Derived.Test.YtbkddpckkgbbmaaGreatDoorVqG
import Derived.Test.YtbkddpckkgbbmaaGreatDoorVcT
set_option linter.unusedSimpArgs false
set_option linter.unusedVariables false
set_option linter.unusedSectionVars false
set_option linter.unnecessarySimpa false
namespace Go.Oct
open Go Go.Vc Go.VrA Go.VrB Go.VrC Go.VrE
set_option maxRecDepth 100000

/-! ### the reference's Box: Without, List -/

def withoutL (k : Int) (l : List Ms) : List Ms := (l.zipIdx.filter fun p => decide ((p.2 : Int) ≠ k)).map (·.1)
theorem withoutL_snoc (k : Int) (l : List Ms) (x : Ms) : withoutL k (l ++ [x]) = withoutL k l ++ (if ((l.length : Nat) : Int) ≠ k then [x] else []) := by
  unfold withoutL
  rw [List.zipIdx_append, List.filter_append, List.map_append]
  congr 1
  by_cases h : ((l.length : Nat) : Int) = k <;> simp [h]

theorem rwithout_c (l : List Ms) (k : Int) (v : Value) (w : World) (K : Value → World → Prop) (hv : IsBx w v l) (hl : l.length < 2 ^ 19)
    (h : ∀ w' v', Mod (fun _ => False) w w' → IsBx w' v' (withoutL k l) → (∀ j, v'.ownBlock = some j → w.heap.size ≤ j) → K v' w') : Ok Proofs.Tryz.prog 159 #[v, .int .i64 k] w K := by
  obtain ⟨⟨a, cp, rfl⟩, hat⟩ := hv
  refine F159.enter (args := [.slice a l.length cp, .int .i64 k]) (by simp) ?_
  unfold c159 r159
  simp only [vc_seq, vc_block, vc_ops, vcOps_nil, vcOps_cons, goL_apply, thenQ_normal, upd_same, upd_other, updO_some, ev_tmp, ev_const, initE_at, insVc, lenLK, ne_eq, not_false_eq_true, reduceCtorEq, Option.getD_some, List.getElem?_cons_zero]
  refine vc_loop (fun mm ρ ds u => ∃ i v', i ≤ l.length ∧ mm = l.length - i ∧ ds = [] ∧ ρ 1 = .int .i64 k ∧ ρ 5 = v' ∧ ρ 8 = .slice a l.length cp ∧ ρ 9 = .int .i64 l.length ∧ ρ 10 = .int .i64 i ∧
    Mod (fun _ => False) w u ∧ u.ownsRow w.heap.size 49 5 v' (withoutL k (l.take i)).length ((withoutL k (l.take i)).flatMap Ms.cells) ∧ (withoutL k (l.take i)).length ≤ i) (l.length - 0) ?_ ?_
  · exact ⟨0, _, Nat.zero_le _, rfl, rfl, by simp only [upd_other, initE_at, ne_eq, not_false_eq_true, Nat.reduceEqDiff, Option.getD_some, List.getElem?_cons_zero, List.getElem?_cons_succ], by simp only [upd_same, upd_other, ne_eq, not_false_eq_true, Nat.reduceEqDiff], by simp only [upd_same, upd_other, ne_eq, not_false_eq_true, Nat.reduceEqDiff], by simp only [upd_same, upd_other, ne_eq, not_false_eq_true, Nat.reduceEqDiff], by simp only [upd_same]; rfl, Mod.refl _ _, World.ownsRow_nil _ _ _ 5, by simp [withoutL]⟩
  · rintro mm ρ ds u ⟨i, v', hi, rfl, rfl, h1, h5, h8, h9, h10, hmu, hown, hacc⟩
    have hms := hmu.size
    have hob : ∀ k, v'.ownBlock = some k → w.heap.size ≤ k ∧ k < u.heap.size := fun k hk => World.ownsRow.lt hown k hk
    by_cases c1 : i < l.length
    · have d1 : (i : Int) < ((l.length : Nat) : Int) := by omega
      obtain ⟨x, hxi⟩ : ∃ x, l[i]? = some x := ⟨l[i], List.getElem?_eq_getElem c1⟩
      obtain ⟨b, o, c, cur, t, f, he, hb, hsz, hex⟩ := hat i x hxi
      have hbu := hmu.keep hb id
      rw [Nat.add_assoc] at hsz hex
      have ha : a = some ⟨b, o, none⟩ := by simpa using congrArg (fun x => match x with | .slice a _ _ => a | _ => none) he
      subst ha
      have hi0 : (0 : Int) ≤ (i : Int) ∧ (i : Int) < ((l.length : Nat) : Int) := by omega
      have hw1 : IntKind.i64.wrap ((i : Int) + 1) = ((i + 1 : Nat) : Int) := by rw [wrap_i64 _ (by omega)]; omega
      have htk := withoutL_snoc k (l.take i) x
      have hte : l.take i ++ [x] = l.take (i + 1) := by rw [List.take_add_one, hxi]; rfl
      rw [hte, List.length_take, Nat.min_eq_left hi] at htk
      obtain ⟨u1, hu1⟩ : ∃ u1, u1 = Vc.set (u.alloc (.cells #[.string ⟨#[]⟩, .int .u64 0, .int .u32 0, .int .u64 0, .string ⟨#[]⟩] 49)) u.heap.size (.cells #[.string x.queue, .int .u64 x.id, .int .u32 x.tries, .int .u64 x.expiry, .string x.body] 49) := ⟨_, rfl⟩
      have hmu1 : Mod (fun _ => False) u u1 := by rw [hu1]; exact ((Mod.refl _ _).alloc _).set (.inl (Nat.le_refl _))
      have px1 : u1.heap[u.heap.size]? = some (.cells #[.string x.queue, .int .u64 x.id, .int .u32 x.tries, .int .u64 x.expiry, .string x.body] 49 (0, 0)) := by rw [hu1]; exact get_set_same _ _ _ (by simp only [size_alloc]; omega)
      have hz1 : u.heap.size + 1 = u1.heap.size := by rw [hu1]; simp only [size_set, size_alloc]
      have hown1 := own_keep' hown hmu1 (fun _ _ x => x)
      by_cases hk : ((i : Nat) : Int) = k
      · have q1 : (((i : Nat) : Int) != k) = false := by simpa using hk
        rw [if_neg (by simpa using hk), List.append_nil] at htk
        simp only [vc_skip, vc_seq, vc_cond, vc_block, vc_ops, vcOps_nil, vcOps_cons, goL_apply, thenQ_normal, blockQ_normal, condP_true, condP_false, upd_same, upd_other, updO_some, updO_none, ev_tmp, ev_const, insVc, loadV_some, loadNK, loadNO_cells, storeNK, storeNO_cells, setMany, iopK, iopV, iaddrK, isPlain, Value.cells, ne_eq, not_false_eq_true, Nat.reduceEqDiff, Nat.reduceAdd, Nat.reduceLeDiff, reduceCtorEq, List.size_toArray, List.length_cons, List.length_nil, List.setIfInBounds_toArray, List.set_cons_zero, List.set_cons_succ, true_and, or_false, and_self, if_true, Nat.zero_add, decide_true, Bool.and_true, Int.toNat_natCast, List.all_toArray', List.all_cons, List.all_nil, get_alloc, Nat.add_assoc, Nat.reduceAdd, Nat.reduceEqDiff, h1, h8, h9, h10, d1, hi0, hbu, hsz, hex, Ms.cells, q1]
        rw [← hu1]
        simp only [hw1, h5]
        refine ⟨l.length - (i + 1), by omega, i + 1, v', by omega, rfl, rfl, rfl, hmu.trans hmu1, ?_, by rw [htk]; omega⟩
        rw [htk]; exact hown1
      · have q1 : (((i : Nat) : Int) != k) = true := by simpa using hk
        rw [if_pos (by simpa using hk)] at htk
        simp only [vc_skip, vc_seq, vc_cond, vc_block, vc_ops, vcOps_nil, vcOps_cons, goL_apply, thenQ_normal, condP_true, upd_same, upd_other, updO_some, updO_none, ev_tmp, insVc, loadV_some, loadNK, loadNO_cells, storeNK, storeNO_cells, setMany, iopK, iopV, iaddrK, fillL, buildSK, isPlain, Value.cells, ne_eq, not_false_eq_true, Nat.reduceEqDiff, Nat.reduceAdd, Nat.reduceLeDiff, reduceCtorEq, List.size_toArray, List.length_cons, List.length_nil, List.zipIdx_cons, List.zipIdx_nil, List.foldl_cons, List.foldl_nil, List.setIfInBounds_toArray, List.set_cons_zero, List.set_cons_succ, List.toList_toArray, true_and, or_false, and_self, if_true, Nat.zero_add, decide_true, Bool.and_true, Int.toNat_natCast, List.extract_toArray, List.extract_eq_take_drop, List.drop_zero, List.take_zero, List.take_succ_cons, Nat.sub_zero, List.all_toArray', List.all_cons, List.all_nil, size_set, size_alloc, get_set_same, Nat.lt_add_one, get_alloc, size_alloc, size_set, Nat.add_assoc, Nat.reduceAdd, Nat.reduceEqDiff, h1, h8, h9, h10, d1, hi0, hbu, hsz, hex, Ms.cells, q1, h5]
        rw [← hu1, hz1]
        obtain ⟨v5, w5, hr5, ho5, hm5, hb5⟩ := append_bx 50 (by kernel_rfl) w.heap.size v' (withoutL k (l.take i)) x u1 hown1 (by have := hmu1.size; omega) (by omega) 50
        refine rawK_append rfl rfl rfl (by simp only [upd_same, upd_other, ev_tmp, ne_eq, not_false_eq_true, Nat.reduceEqDiff]; exact hr5) ?_
        simp only [vc_ops, vcOps_nil, vcOps_cons, goL_apply, thenQ_normal, blockQ_normal, upd_same, upd_other, updO_some, ev_tmp, ev_const, insVc, loadV_some, iopK, iopV, ne_eq, not_false_eq_true, Nat.reduceEqDiff, reduceCtorEq, true_and, or_false, h1, h8, h9, h10, hw1]
        refine ⟨l.length - (i + 1), by omega, i + 1, v5, by omega, rfl, rfl, rfl, (hmu.trans hmu1).then hm5 (fun k hk x => by have := hob k x; omega), ?_, by rw [htk, List.length_append]; simp only [List.length_cons, List.length_nil]; omega⟩
        rw [htk]; exact ho5
    · have d1 : ¬ (i : Int) < ((l.length : Nat) : Int) := by omega
      have hi2 : i = l.length := by omega
      rw [hi2, List.take_length] at hown
      simp only [vc_seq, vc_cond, vc_exit, vc_ret, vc_ops, vcOps_nil, vcOps_cons, goL_apply, thenQ_normal, thenQ_exit, blockQ_same, condP_false, upd_same, upd_other, updO_some, ev_tmp, endQ_ret, endK, resK, packed, insVc, loadV_some, iopK, iopV, ne_eq, not_false_eq_true, Nat.reduceEqDiff, reduceCtorEq, List.nil_append, true_and, or_false, decide_false, h9, h10, d1, h5]
      exact h u v' hmu (IsBx.own hown) (fun j hj => (hob j hj).1)
end Go.Oct

namespace Go.Oct
open Go Go.Vc Go.VrA Go.VrB Go.VrC Go.VrE
set_option maxRecDepth 100000

/-! ### the reference's Box: List -/

def fromL (q : ByteArray) (n : Nat) (l : List Ms) : List Ms := l.filter fun x => decide (x.queue = q ∧ n ≤ x.id)
theorem fromL_snoc (q : ByteArray) (n : Nat) (l : List Ms) (x : Ms) : fromL q n (l ++ [x]) = fromL q n l ++ (if x.queue = q ∧ n ≤ x.id then [x] else []) := by
  unfold fromL
  rw [List.filter_append]
  congr 1
  by_cases h : x.queue = q ∧ n ≤ x.id <;> simp [h]

theorem rfrom_c (l : List Ms) (q : ByteArray) (n : Nat) (v : Value) (w : World) (K : Value → World → Prop) (hv : IsBx w v l) (hl : l.length < 2 ^ 19)
    (h : ∀ w' v', Mod (fun _ => False) w w' → IsBx w' v' (fromL q n l) → K v' w') : Ok Proofs.Tryz.prog 44 #[v, .string q, .int .u64 n] w K := by
  obtain ⟨⟨a, cp, rfl⟩, hat⟩ := hv
  refine F44.enter (args := [.slice a l.length cp, .string q, .int .u64 n]) (by simp) ?_
  unfold c44 r44
  simp only [vc_seq, vc_block, vc_ops, vcOps_nil, vcOps_cons, goL_apply, thenQ_normal, upd_same, upd_other, updO_some, ev_tmp, ev_const, initE_at, insVc, lenLK, ne_eq, not_false_eq_true, reduceCtorEq, Option.getD_some, List.getElem?_cons_zero]
  refine vc_loop (fun mm ρ ds u => ∃ i v', i ≤ l.length ∧ mm = l.length - i ∧ ds = [] ∧ ρ 1 = .string q ∧ ρ 2 = .int .u64 n ∧ ρ 7 = v' ∧ ρ 10 = .slice a l.length cp ∧ ρ 11 = .int .i64 l.length ∧ ρ 12 = .int .i64 i ∧
    Mod (fun _ => False) w u ∧ u.ownsRow w.heap.size 49 5 v' (fromL q n (l.take i)).length ((fromL q n (l.take i)).flatMap Ms.cells) ∧ (fromL q n (l.take i)).length ≤ i) (l.length - 0) ?_ ?_
  · exact ⟨0, _, Nat.zero_le _, rfl, rfl, by simp only [upd_other, initE_at, ne_eq, not_false_eq_true, Nat.reduceEqDiff, Option.getD_some, List.getElem?_cons_zero, List.getElem?_cons_succ], by simp only [upd_other, initE_at, ne_eq, not_false_eq_true, Nat.reduceEqDiff, Option.getD_some, List.getElem?_cons_zero, List.getElem?_cons_succ], by simp only [upd_same, upd_other, ne_eq, not_false_eq_true, Nat.reduceEqDiff], by simp only [upd_same, upd_other, ne_eq, not_false_eq_true, Nat.reduceEqDiff], by simp only [upd_same, upd_other, ne_eq, not_false_eq_true, Nat.reduceEqDiff], by simp only [upd_same]; rfl, Mod.refl _ _, World.ownsRow_nil _ _ _ 5, by simp [fromL]⟩
  · rintro mm ρ ds u ⟨i, v', hi, rfl, rfl, h1, h2, h7, h10, h11, h12, hmu, hown, hacc⟩
    have hms := hmu.size
    have hob : ∀ k, v'.ownBlock = some k → w.heap.size ≤ k ∧ k < u.heap.size := fun k hk => World.ownsRow.lt hown k hk
    by_cases c1 : i < l.length
    · have d1 : (i : Int) < ((l.length : Nat) : Int) := by omega
      obtain ⟨x, hxi⟩ : ∃ x, l[i]? = some x := ⟨l[i], List.getElem?_eq_getElem c1⟩
      obtain ⟨b, o, c, cur, t, f, he, hb, hsz, hex⟩ := hat i x hxi
      have hbu := hmu.keep hb id
      rw [Nat.add_assoc] at hsz hex
      have ha : a = some ⟨b, o, none⟩ := by simpa using congrArg (fun x => match x with | .slice a _ _ => a | _ => none) he
      subst ha
      have hi0 : (0 : Int) ≤ (i : Int) ∧ (i : Int) < ((l.length : Nat) : Int) := by omega
      have hw1 : IntKind.i64.wrap ((i : Int) + 1) = ((i + 1 : Nat) : Int) := by rw [wrap_i64 _ (by omega)]; omega
      have htk := fromL_snoc q n (l.take i) x
      have hte : l.take i ++ [x] = l.take (i + 1) := by rw [List.take_add_one, hxi]; rfl
      rw [hte] at htk
      obtain ⟨u1, hu1⟩ : ∃ u1, u1 = Vc.set (u.alloc (.cells #[.string ⟨#[]⟩, .int .u64 0, .int .u32 0, .int .u64 0, .string ⟨#[]⟩] 49)) u.heap.size (.cells #[.string x.queue, .int .u64 x.id, .int .u32 x.tries, .int .u64 x.expiry, .string x.body] 49) := ⟨_, rfl⟩
      have hmu1 : Mod (fun _ => False) u u1 := by rw [hu1]; exact ((Mod.refl _ _).alloc _).set (.inl (Nat.le_refl _))
      have px1 : u1.heap[u.heap.size]? = some (.cells #[.string x.queue, .int .u64 x.id, .int .u32 x.tries, .int .u64 x.expiry, .string x.body] 49 (0, 0)) := by rw [hu1]; exact get_set_same _ _ _ (by simp only [size_alloc]; omega)
      have hz1 : u.heap.size + 1 = u1.heap.size := by rw [hu1]; simp only [size_set, size_alloc]
      have hown1 := own_keep' hown hmu1 (fun _ _ x => x)
      by_cases hq : x.queue = q
      · have q0 : (x.queue.toList == q.toList) = true := by rw [hq]; simp
        by_cases hn : n ≤ x.id
        · have q1 : ((x.id : Nat) : Int) ≥ ((n : Nat) : Int) := by omega
          rw [if_pos ⟨hq, hn⟩] at htk
          simp only [vc_skip, vc_seq, vc_cond, vc_block, vc_ops, vcOps_nil, vcOps_cons, vcOps_gate, gateK_true, gate_true, goL_apply, thenQ_normal, condP_true, upd_same, upd_other, updO_some, updO_none, ev_tmp, ev_const, insVc, pickK, load1K, loadO_cells, loadV_some, loadNK, loadNO_cells, storeNK, storeNO_cells, setMany, iopK, iopV, sopK, sopV, faddrK, iaddrK, fillL, buildSK, isPlain, Value.cells, ne_eq, not_false_eq_true, Nat.reduceEqDiff, Nat.reduceAdd, Nat.reduceLeDiff, reduceCtorEq, List.getElem?_cons_zero, List.getElem?_cons_succ, List.getElem?_toArray, List.size_toArray, List.length_cons, List.length_nil, List.zipIdx_cons, List.zipIdx_nil, List.foldl_cons, List.foldl_nil, List.setIfInBounds_toArray, List.set_cons_zero, List.set_cons_succ, List.toList_toArray, true_and, or_false, and_self, if_true, Nat.zero_add, Nat.add_zero, decide_true, Bool.and_true, Int.toNat_natCast, List.extract_toArray, List.extract_eq_take_drop, List.drop_zero, List.take_zero, List.take_succ_cons, Nat.sub_zero, List.all_toArray', List.all_cons, List.all_nil, size_set, size_alloc, get_set_same, Nat.lt_add_one, get_alloc, size_alloc, size_set, Nat.add_assoc, Nat.reduceAdd, Nat.reduceEqDiff, h1, h2, h10, h11, h12, d1, hi0, hbu, hsz, hex, Ms.cells, q0, q1, h7]
          rw [← hu1, hz1]
          obtain ⟨v5, w5, hr5, ho5, hm5, hb5⟩ := append_bx 47 (by kernel_rfl) w.heap.size v' (fromL q n (l.take i)) x u1 hown1 (by have := hmu1.size; omega) (by omega) 47
          refine rawK_append rfl rfl rfl (by simp only [upd_same, upd_other, ev_tmp, ne_eq, not_false_eq_true, Nat.reduceEqDiff]; exact hr5) ?_
          simp only [vc_ops, vcOps_nil, vcOps_cons, goL_apply, thenQ_normal, blockQ_normal, upd_same, upd_other, updO_some, ev_tmp, ev_const, insVc, loadV_some, iopK, iopV, ne_eq, not_false_eq_true, Nat.reduceEqDiff, reduceCtorEq, true_and, or_false, h1, h2, h10, h11, h12, hw1]
          refine ⟨l.length - (i + 1), by omega, i + 1, v5, by omega, rfl, rfl, rfl, (hmu.trans hmu1).then hm5 (fun k hk x => by have := hob k x; omega), ?_, by rw [htk, List.length_append]; simp only [List.length_cons, List.length_nil]; omega⟩
          rw [htk]; exact ho5
        · have q1 : ¬ ((x.id : Nat) : Int) ≥ ((n : Nat) : Int) := by omega
          rw [if_neg (fun h => hn h.2), List.append_nil] at htk
          simp only [vc_skip, vc_seq, vc_cond, vc_block, vc_ops, vcOps_nil, vcOps_cons, vcOps_gate, gateK_true, gate_true, goL_apply, thenQ_normal, blockQ_normal, condP_true, condP_false, upd_same, upd_other, updO_some, updO_none, ev_tmp, ev_const, insVc, pickK, load1K, loadO_cells, loadV_some, loadNK, loadNO_cells, storeNK, storeNO_cells, setMany, iopK, iopV, sopK, sopV, faddrK, iaddrK, isPlain, Value.cells, ne_eq, not_false_eq_true, Nat.reduceEqDiff, Nat.reduceAdd, Nat.reduceLeDiff, reduceCtorEq, List.getElem?_cons_zero, List.getElem?_cons_succ, List.getElem?_toArray, List.size_toArray, List.length_cons, List.length_nil, List.setIfInBounds_toArray, List.set_cons_zero, List.set_cons_succ, true_and, or_false, and_self, if_true, Nat.zero_add, Nat.add_zero, decide_true, decide_false, Bool.and_true, Int.toNat_natCast, List.all_toArray', List.all_cons, List.all_nil, size_alloc, get_set_same, Nat.lt_add_one, get_alloc, size_alloc, Nat.add_assoc, Nat.reduceAdd, Nat.reduceEqDiff, h1, h2, h10, h11, h12, d1, hi0, hbu, hsz, hex, Ms.cells, q0, q1]
          rw [← hu1]
          simp only [hw1, h7]
          refine ⟨l.length - (i + 1), by omega, i + 1, v', by omega, rfl, rfl, rfl, hmu.trans hmu1, ?_, by rw [htk]; omega⟩
          rw [htk]; exact hown1
      · have q0 : (x.queue.toList == q.toList) = false := by
          rw [beq_eq_false_iff_ne, ByteArray.toList_eq, ByteArray.toList_eq]
          intro e
          exact hq (ByteArray.ext (Array.ext' e))
        rw [if_neg (fun h => hq h.1), List.append_nil] at htk
        simp only [vc_skip, vc_seq, vc_cond, vc_block, vc_ops, vcOps_nil, vcOps_cons, vcOps_gate, gateK_false, gate_true, goL_apply, thenQ_normal, blockQ_normal, condP_true, condP_false, upd_same, upd_other, updO_some, updO_none, ev_tmp, ev_const, insVc, pickK, load1K, loadO_cells, loadV_some, loadNK, loadNO_cells, storeNK, storeNO_cells, setMany, iopK, iopV, sopK, sopV, faddrK, iaddrK, isPlain, Value.cells, ne_eq, not_false_eq_true, Nat.reduceEqDiff, Nat.reduceAdd, Nat.reduceLeDiff, reduceCtorEq, List.getElem?_cons_zero, List.getElem?_toArray, List.size_toArray, List.length_cons, List.length_nil, List.setIfInBounds_toArray, List.set_cons_zero, List.set_cons_succ, true_and, or_false, and_self, if_true, if_false, Bool.false_eq_true, Nat.zero_add, Nat.add_zero, decide_true, Bool.and_true, Int.toNat_natCast, List.all_toArray', List.all_cons, List.all_nil, size_alloc, get_set_same, Nat.lt_add_one, get_alloc, size_alloc, Nat.add_assoc, Nat.reduceAdd, Nat.reduceEqDiff, h1, h2, h10, h11, h12, d1, hi0, hbu, hsz, hex, Ms.cells, q0]
        rw [← hu1]
        simp only [hw1, h7]
        refine ⟨l.length - (i + 1), by omega, i + 1, v', by omega, rfl, rfl, rfl, hmu.trans hmu1, ?_, by rw [htk]; omega⟩
        rw [htk]; exact hown1
    · have d1 : ¬ (i : Int) < ((l.length : Nat) : Int) := by omega
      have hi2 : i = l.length := by omega
      rw [hi2, List.take_length] at hown
      simp only [vc_seq, vc_cond, vc_exit, vc_ret, vc_ops, vcOps_nil, vcOps_cons, goL_apply, thenQ_normal, thenQ_exit, blockQ_same, condP_false, upd_same, upd_other, updO_some, ev_tmp, endQ_ret, endK, resK, packed, insVc, loadV_some, iopK, iopV, ne_eq, not_false_eq_true, Nat.reduceEqDiff, reduceCtorEq, List.nil_append, true_and, or_false, decide_false, h11, h12, d1, h7]
      exact h u v' hmu (IsBx.own hown)
end Go.Oct

namespace Go.Oct
open Go Go.Vc Go.VrA Go.VrB Go.VrC Go.VrE
set_option maxRecDepth 100000

/-! ### the reference's Box: Take -/

theorem findL_bound (q : ByteArray) (n : Nat) : ∀ (l : List Ms) (k : Nat), findL q n l k = -1 ∨ ((k : Int) ≤ findL q n l k ∧ findL q n l k < ((k + l.length : Nat) : Int))
  | [], k => .inl rfl
  | m :: r, k => by
    rw [findL_cons]
    split
    · right; simp only [List.length_cons]; omega
    · rcases findL_bound q n r (k + 1) with h | h
      · exact .inl h
      · right; simp only [List.length_cons]; omega

def takeR (q : ByteArray) (n : Nat) (l : List Ms) : List Ms × Ms × Int :=
  if findL q n l 0 < 0 then (l, ms0, 21) else (withoutL (findL q n l 0) l, (l[(findL q n l 0).toNat]?).getD ms0, 0)

theorem rtake_c (l : List Ms) (q : ByteArray) (n : Nat) (v : Value) (w : World) (K : Value → World → Prop) (hv : IsBx w v l) (hl : l.length < 2 ^ 19)
    (h : ∀ w' v', Mod (fun _ => False) w w' → IsBx w' v' (takeR q n l).1 → K (.tuple #[v', (takeR q n l).2.1.val, .int .i64 (takeR q n l).2.2]) w') :
    Ok Proofs.Tryz.prog 96 #[v, .string q, .int .u64 n] w K := by
  obtain ⟨⟨a, cp, hve⟩, hat⟩ := id hv
  refine F96.enter (args := [v, .string q, .int .u64 n]) (by simp) ?_
  unfold c96 r96
  simp only [vc_seq, vc_ops, vcOps_nil, vcOps_cons, goL_apply, thenQ_normal, upd_same, upd_other, updO_some, ev_tmp, ev_const, initE_at, insVc, Value.cells, ne_eq, not_false_eq_true, Nat.reduceEqDiff, reduceCtorEq, Option.getD_some, List.map_cons, List.map_nil, List.getElem?_cons_zero, List.getElem?_cons_succ]
  refine callK_gen ?_
  intro w1 hw1
  have hm1 : Mod (fun _ => False) w w1 := by rw [hw1]; exact (Mod.refl _ _).alloc _
  have e1 : w1.heap[w.heap.size]? = some (.cells zms 49 (0, 0)) := by rw [hw1]; exact get_alloc_new _ _
  clear hw1
  refine rfind_c l q n v w1 _ (hv.keep hm1) (by omega) ?_
  intro w2 hm2
  have e2 := hm2.keep e1 id
  have hm12 := hm1.trans hm2
  have hb := findL_bound q n l 0
  unfold takeR at h
  revert h hb
  generalize findL q n l 0 = i
  intro h hb
  by_cases hi : i < 0
  · rw [if_pos hi] at h
    simp only [vc_seq, vc_cond, vc_ret, vc_ops, vcOps_nil, vcOps_cons, goL_apply, thenQ_normal, thenQ_ret, condP_true, upd_same, upd_other, updO_some, updO_none, ev_tmp, ev_const, endQ_ret, endK, resK, resN, resNO_cells, packed, initE_at, insVc, loadV_some, storeNK, storeNO_cells, setMany, iopK, iopV, buildK, fillL, isPlain, ne_eq, not_false_eq_true, Nat.reduceEqDiff, Nat.reduceAdd, Nat.reduceLeDiff, reduceCtorEq, Option.getD_some, List.getElem?_cons_zero, List.size_toArray, List.length_cons, List.length_nil, List.setIfInBounds_toArray, List.set_cons_zero, List.set_cons_succ, List.nil_append, List.cons_append, true_and, or_false, and_self, Nat.zero_add, decide_true, Bool.and_true, List.extract_toArray, List.extract_eq_take_drop, List.drop_zero, List.take_zero, List.take_succ_cons, Nat.sub_zero, List.all_toArray', List.all_cons, List.all_nil, hi, e2, get_set_same _ _ _ (lt_of_get e2)]
    exact h _ _ (hm12.set (.inl (Nat.le_refl _))) (hv.keep (hm12.set (.inl (Nat.le_refl _))))
  · rw [if_neg hi] at h
    obtain ⟨j, rfl⟩ : ∃ j : Nat, i = (j : Int) := ⟨i.toNat, by omega⟩
    have hj : j < l.length := by omega
    obtain ⟨x, hx⟩ : ∃ x, l[j]? = some x := ⟨l[j], List.getElem?_eq_getElem hj⟩
    obtain ⟨b, o, c, cur, t, f, rfl, hbk, hsz, hex⟩ := hat j x hx
    rw [Nat.add_assoc] at hsz hex
    have hbk2 := hm12.keep hbk id
    have hlb := lt_of_get hbk
    have hi0 : (0 : Int) ≤ (j : Int) ∧ (j : Int) < ((l.length : Nat) : Int) := by omega
    rw [Int.toNat_natCast, hx, Option.getD_some] at h
    simp only [vc_skip, vc_seq, vc_cond, vc_ops, vcOps_nil, vcOps_cons, goL_apply, thenQ_normal, condP_false, upd_same, updO_some, ev_tmp, ev_const, insVc, loadV_some, iopK, iopV, reduceCtorEq, true_and, or_false, decide_false, hi]
    refine draw_d (fun W => W.heap[b]? = some (.cells cur t f)) (by kernel_rfl) (by kernel_rfl) (by kernel_rfl) (by kernel_rfl) hbk2 ?_
    simp only [vc_ret, thenQ_normal, upd_same, upd_other, updO_some, updO_none, ev_tmp, ev_const, endQ_ret, endK, resK, resN, packed, initE_at, insVc, storeNK, iaddrK, ne_eq, not_false_eq_true, Nat.reduceEqDiff, reduceCtorEq, Option.getD_some, List.map_cons, List.map_nil, List.getElem?_cons_zero, List.nil_append, List.cons_append, if_true, if_false, Bool.false_eq_true, Int.toNat_natCast, pureI, vcD_nil, vcD_cons, stepD_pure, stepD_load, stepD_step, kindI, loadI]
    refine rwithout_c l j _ w2.drew _ ((hv.keep hm12).keep (Mod.refl _ _).drew) hl ?_
    intro w3 v3 hm3 hB3 ho3
    have hm23 : Mod (fun _ => False) w2 w3 := ((Mod.refl _ _).drew).trans hm3
    refine ⟨hm23.keep hbk2 id, ?_⟩
    simp only [true_and, and_self, hi0]
    refine loadDN (b := b) (o := o + j * 5) (v := x.val) (by simp only [upd_same, ev_tmp]) (fun W hW => ⟨_, _, _, hW, by omega, by rw [Nat.add_assoc, hex]; rfl⟩) ?_
    have e3 := hm23.keep e2 id
    simp only [resNO_cells, storeNO_cells, setMany, isPlain, Nat.reduceAdd, Nat.reduceLeDiff, List.size_toArray, List.length_cons, List.length_nil, List.setIfInBounds_toArray, List.set_cons_zero, List.set_cons_succ, true_and, and_self, Nat.zero_add, Bool.and_true, List.extract_toArray, List.extract_eq_take_drop, List.drop_zero, List.take_zero, List.take_succ_cons, Nat.sub_zero, List.all_toArray', List.all_cons, List.all_nil, Ms.val, Ms.cells, e3, get_set_same _ _ _ (lt_of_get e3)]
    have M : ∀ cs, Mod (fun _ => False) w (Vc.set w3 w.heap.size cs) := fun cs => (hm12.trans hm23).set (.inl (Nat.le_refl _))
    refine ⟨(M _).keep hbk id, ?_⟩
    have hz2 := lt_of_get e2
    exact h _ v3 (M _) (hB3.mod (S := fun k => k = w.heap.size) ((Mod.refl _ _).set (.inr rfl)) (fun k hk hk' => by have := ho3 k hk; simp only [size_drew] at this; omega))
end Go.Oct

namespace Go.Oct
open Go Go.Vc Go.VrA Go.VrB Go.VrC Go.VrE
set_option maxRecDepth 100000

/-! ### the reference's Box: Save -/

theorem withoutL_len (k : Int) (l : List Ms) : (withoutL k l).length ≤ l.length := by
  unfold withoutL
  rw [List.length_map]
  refine Nat.le_trans (List.length_filter_le _ _) ?_
  rw [List.length_zipIdx]; exact Nat.le_refl _

def saveR (m : Ms) (l : List Ms) : List Ms × Int :=
  if findL m.queue m.id l 0 < 0 then (l, 21) else if (keysR m).2.2 ≠ 0 then (l, (keysR m).2.2) else (insR m (withoutL (findL m.queue m.id l 0) l), 0)

theorem rsave_c (l : List Ms) (m : Ms) (v : Value) (w : World) (K : Value → World → Prop) (hv : IsBx w v l) (hl : l.length < 2 ^ 19) (hs : m.queue.size < 4294967281) (hi : m.id < 2 ^ 64) (he : m.expiry < 2 ^ 64)
    (h : ∀ w' v', Mod (fun _ => False) w w' → IsBx w' v' (saveR m l).1 → K (.tuple #[v', .int .i64 (saveR m l).2]) w') :
    Ok Proofs.Tryz.prog 94 #[v, m.val] w K := by
  refine F94.enter (args := [v, m.val]) (by simp) ?_
  unfold c94 r94
  simp only [vc_seq, vc_ops, vcOps_nil, vcOps_cons, goL_apply, thenQ_normal, upd_same, upd_other, updO_some, ev_tmp, ev_const, initE_at, insVc, load1K, loadO_cells, loadV_some, faddrK, Value.cells, ne_eq, not_false_eq_true, Nat.reduceEqDiff, reduceCtorEq, Option.getD_some, List.map_cons, List.map_nil, List.getElem?_cons_zero, List.getElem?_cons_succ, List.getElem?_toArray, Nat.zero_add, Nat.add_zero, get_alloc_new, Ms.val, Ms.cells]
  refine callK_gen ?_
  intro w1 hw1
  have hm1 : Mod (fun _ => False) w w1 := by rw [hw1]; exact (Mod.refl _ _).alloc _
  have e1 : w1.heap[w.heap.size]? = some (.cells #[.string m.queue, .int .u64 m.id, .int .u32 m.tries, .int .u64 m.expiry, .string m.body] 49 (0, 0)) := by rw [hw1]; exact get_alloc_new _ _
  clear hw1
  refine rfind_c l m.queue m.id v w1 _ (hv.keep hm1) (by omega) ?_
  intro w2 hm2
  have e2 := hm2.keep e1 id
  have hm12 := hm1.trans hm2
  unfold saveR at h
  revert h
  generalize findL m.queue m.id l 0 = i
  intro h
  by_cases hi' : i < 0
  · rw [if_pos hi'] at h
    simp only [vc_seq, vc_cond, vc_ret, vc_ops, vcOps_nil, vcOps_cons, goL_apply, thenQ_normal, thenQ_ret, condP_true, upd_same, upd_other, updO_some, ev_tmp, ev_const, endQ_ret, endK, resK, packed, initE_at, insVc, loadV_some, iopK, iopV, ne_eq, not_false_eq_true, Nat.reduceEqDiff, reduceCtorEq, Option.getD_some, List.getElem?_cons_zero, List.nil_append, List.cons_append, true_and, or_false, decide_true, hi']
    exact h _ _ hm12 (hv.keep hm12)
  · rw [if_neg hi'] at h
    simp only [vc_skip, vc_seq, vc_cond, vc_ops, vcOps_nil, vcOps_cons, goL_apply, thenQ_normal, condP_false, upd_same, upd_other, updO_some, ev_tmp, ev_const, insVc, loadV_some, loadNK, loadNO_cells, iopK, iopV, ne_eq, not_false_eq_true, Nat.reduceEqDiff, Nat.reduceAdd, Nat.reduceLeDiff, reduceCtorEq, List.map_cons, List.map_nil, List.size_toArray, List.length_cons, List.length_nil, true_and, or_false, Nat.zero_add, decide_false, List.extract_toArray, List.extract_eq_take_drop, List.drop_zero, List.take_zero, List.take_succ_cons, Nat.sub_zero, hi', e2]
    refine rkeys_c m w2 _ hs hi he ?_
    intro w3 hm3
    have e3 := hm3.keep e2 id
    have hm13 := hm12.trans hm3
    by_cases hk : (keysR m).2.2 = 0
    · have b1 : ((keysR m).2.2 != 0) = false := by simpa using hk
      rw [if_neg (by simpa using hk)] at h
      simp only [vc_skip, vc_seq, vc_cond, vc_ops, vcOps_nil, vcOps_cons, goL_apply, thenQ_normal, condP_false, upd_same, updO_some, ev_tmp, ev_const, insVc, loadV_some, iopK, iopV, reduceCtorEq, true_and, or_false, b1]
      refine draw_e (by kernel_rfl) (by kernel_rfl) (by kernel_rfl) (by kernel_rfl) ?_
      try simp only [vc_ret, thenQ_normal, upd_same, upd_other, updO_some, ev_tmp, ev_const, endQ_ret, endK, resK, packed, initE_at, insVc, loadNK, loadNO_cells, ne_eq, not_false_eq_true, Nat.reduceEqDiff, Nat.reduceAdd, Nat.reduceLeDiff, reduceCtorEq, Option.getD_some, List.map_cons, List.map_nil, List.getElem?_cons_zero, List.size_toArray, List.length_cons, List.length_nil, List.nil_append, List.cons_append, true_and, if_true, if_false, Bool.false_eq_true, Nat.zero_add, List.extract_toArray, List.extract_eq_take_drop, List.drop_zero, List.take_zero, List.take_succ_cons, Nat.sub_zero, pureI, kindI, loadI, vcE_nil, vcE_cons, stepE_pure, stepE_load, stepE_step, e3]
      have hmD : Mod (fun _ => False) w3 w3.drew := (Mod.refl _ _).drew
      refine rwithout_c l i _ w3.drew _ ((hv.keep hm13).keep hmD) hl ?_
      intro w4 v4 hm4 hB4 _
      have hm34 := hmD.trans hm4
      refine ⟨hm34, ?_⟩
      try simp only [vc_skip, vc_seq, vc_cond, vc_block, vc_exit, vc_ret, vc_ops, vcOps_nil, vcOps_cons, vcOps_gate, gateK_true, gateK_false, gate_true, gate_false, gate_undef, goL_apply, thenQ_normal, thenQ_ret, thenQ_exit, blockQ_normal, blockQ_ret, blockQ_same, blockQ_exit, condP_true, condP_false, upd_same, upd_other, updO_some, updO_none, ev_tmp, ev_const, ev_global, ev_func, endQ_ret, endQ_normal, endK, resK, resN, res1, resO_cells, resNO_cells, packed, initE_at, insVc, pickK, load1K, loadO_cells, loadV_some, loadV_none, loadNK, loadNO_cells, storeK, storeO_cells, storeNK, storeNO_cells, setMany, nilK, nilM, iopK, iopV, bopK, nilOf, pnilK, notK, convK, sameK, faddrK, fld1K, fldNK, iaddrK, iaddrAK, sidxK, extK, lenSK, lenLK, callvK, invK, buildK, fillL, buildSK, boundOf, slSK, slLK, slAK, isPlain, Value.cells, ne_eq, not_false_eq_true, not_true_eq_false, Nat.reduceEqDiff, Nat.reduceAdd, Nat.reduceLT, Nat.reduceLeDiff, reduceCtorEq, Bool.not_true, Bool.not_false, Option.map_some, Option.map_none, Option.getD_some, Option.getD_none, List.map_cons, List.map_nil, List.getElem?_cons_zero, List.getElem?_cons_succ, List.getElem?_nil, List.getElem?_toArray, List.size_toArray, List.length_cons, List.length_nil, List.zipIdx_cons, List.zipIdx_nil, List.foldl_cons, List.foldl_nil, List.setIfInBounds_toArray, List.set_cons_zero, List.set_cons_succ, List.append_eq, List.nil_append, List.cons_append, List.append_nil, List.toList_toArray, true_and, and_true, true_or, or_true, or_false, false_or, and_self, if_true, if_false, ite_true, ite_false, Bool.false_eq_true, Nat.zero_add, Nat.add_zero, decide_true, decide_false, Bool.and_true, Bool.and_false, Bool.true_and, Bool.false_and, Option.isNone_some, Option.isNone_none, Int.reduceLT, Int.reduceLE, Int.reduceToNat, Int.toNat_natCast, Int.reduceAdd, Int.reduceSub, Int.reduceMul, Int.reduceNeg, Int.reduceEq, Int.reduceNe, Int.reduceBEq, Int.reduceBNe, Nat.mul_one, List.extract_toArray, List.extract_eq_take_drop, List.drop_zero, List.drop_succ_cons, List.take_zero, List.take_succ_cons, Nat.sub_zero, Nat.add_sub_cancel, Nat.add_sub_cancel_left, vcS_nil, vcS_cons, vcS_gate, gateS_true, gateS_false, stepB_true, stepB_false, pureI, Nat.zero_mul, Nat.one_mul, Nat.reduceMul, Nat.reduceSub, List.all_toArray', List.all_cons, List.all_nil, size_set, size_alloc, size_drew, get_alloc_new, get_set_same, get_drew, Nat.lt_add_one, vcD_nil, vcD_cons, vcD_gate, gateD_true, gateD_false, stepD_pure, stepD_load, stepD_step, kindI, loadI, sopK_add, sopK_eql, sopK_neq, lenSK_mk, vcE_nil, vcE_cons, vcE_gate, gateE_true, gateE_false, stepE_pure, stepE_load, stepE_step, e3]
      refine rwith_c (withoutL i l) m v4 w4 _ hB4 (by have := withoutL_len i l; omega) ?_
      intro w5 v5 hm5 hB5
      have hm35 := hm34.trans hm5
      refine ⟨hm35, ?_⟩
      try simp only [vc_skip, vc_seq, vc_cond, vc_block, vc_exit, vc_ret, vc_ops, vcOps_nil, vcOps_cons, vcOps_gate, gateK_true, gateK_false, gate_true, gate_false, gate_undef, goL_apply, thenQ_normal, thenQ_ret, thenQ_exit, blockQ_normal, blockQ_ret, blockQ_same, blockQ_exit, condP_true, condP_false, upd_same, upd_other, updO_some, updO_none, ev_tmp, ev_const, ev_global, ev_func, endQ_ret, endQ_normal, endK, resK, resN, res1, resO_cells, resNO_cells, packed, initE_at, insVc, pickK, load1K, loadO_cells, loadV_some, loadV_none, loadNK, loadNO_cells, storeK, storeO_cells, storeNK, storeNO_cells, setMany, nilK, nilM, iopK, iopV, bopK, nilOf, pnilK, notK, convK, sameK, faddrK, fld1K, fldNK, iaddrK, iaddrAK, sidxK, extK, lenSK, lenLK, callvK, invK, buildK, fillL, buildSK, boundOf, slSK, slLK, slAK, isPlain, Value.cells, ne_eq, not_false_eq_true, not_true_eq_false, Nat.reduceEqDiff, Nat.reduceAdd, Nat.reduceLT, Nat.reduceLeDiff, reduceCtorEq, Bool.not_true, Bool.not_false, Option.map_some, Option.map_none, Option.getD_some, Option.getD_none, List.map_cons, List.map_nil, List.getElem?_cons_zero, List.getElem?_cons_succ, List.getElem?_nil, List.getElem?_toArray, List.size_toArray, List.length_cons, List.length_nil, List.zipIdx_cons, List.zipIdx_nil, List.foldl_cons, List.foldl_nil, List.setIfInBounds_toArray, List.set_cons_zero, List.set_cons_succ, List.append_eq, List.nil_append, List.cons_append, List.append_nil, List.toList_toArray, true_and, and_true, true_or, or_true, or_false, false_or, and_self, if_true, if_false, ite_true, ite_false, Bool.false_eq_true, Nat.zero_add, Nat.add_zero, decide_true, decide_false, Bool.and_true, Bool.and_false, Bool.true_and, Bool.false_and, Option.isNone_some, Option.isNone_none, Int.reduceLT, Int.reduceLE, Int.reduceToNat, Int.toNat_natCast, Int.reduceAdd, Int.reduceSub, Int.reduceMul, Int.reduceNeg, Int.reduceEq, Int.reduceNe, Int.reduceBEq, Int.reduceBNe, Nat.mul_one, List.extract_toArray, List.extract_eq_take_drop, List.drop_zero, List.drop_succ_cons, List.take_zero, List.take_succ_cons, Nat.sub_zero, Nat.add_sub_cancel, Nat.add_sub_cancel_left, vcS_nil, vcS_cons, vcS_gate, gateS_true, gateS_false, stepB_true, stepB_false, pureI, Nat.zero_mul, Nat.one_mul, Nat.reduceMul, Nat.reduceSub, List.all_toArray', List.all_cons, List.all_nil, size_set, size_alloc, size_drew, get_alloc_new, get_set_same, get_drew, Nat.lt_add_one, vcD_nil, vcD_cons, vcD_gate, gateD_true, gateD_false, stepD_pure, stepD_load, stepD_step, kindI, loadI, sopK_add, sopK_eql, sopK_neq, lenSK_mk, vcE_nil, vcE_cons, vcE_gate, gateE_true, gateE_false, stepE_pure, stepE_load, stepE_step, e3]
      exact h _ v5 (hm13.trans hm35) hB5
    · have b1 : ((keysR m).2.2 != 0) = true := by simpa using hk
      rw [if_pos (by simpa using hk)] at h
      simp only [vc_seq, vc_cond, vc_ret, vc_ops, vcOps_nil, vcOps_cons, goL_apply, thenQ_normal, thenQ_ret, condP_true, upd_same, upd_other, updO_some, ev_tmp, ev_const, endQ_ret, endK, resK, packed, initE_at, insVc, loadV_some, iopK, iopV, ne_eq, not_false_eq_true, Nat.reduceEqDiff, reduceCtorEq, Option.getD_some, List.getElem?_cons_zero, List.nil_append, List.cons_append, true_and, or_false, b1]
      exact h _ _ hm13 (hv.keep hm13)
end Go.Oct
