import Derived.Test.YtbkddpckkgbbmaaGreatDoorVoI
namespace Go.Oct
open Go Go.Vc Go.VrA
set_option maxRecDepth 100000

/-! ### rows of things -/

def RowAt {α : Type} (w : World) (v : Value) (e : TypeId) (s : Nat) (cells : α → List Value) (l : List α) : Prop :=
  ∃ g off cap cur, v = .slice (some ⟨g, off, none⟩) l.length cap ∧ w.heap[g]? = some (.cells cur e (0, 0)) ∧ (cur.toList.drop off).take (l.length * s) = l.flatMap cells

theorem row_len {α : Type} {s : Nat} {cells : α → List Value} (hc : ∀ a, (cells a).length = s) (l : List α) : (l.flatMap cells).length = l.length * s := by
  induction l with
  | nil => simp
  | cons p l ih => rw [List.flatMap_cons, List.length_append, hc, ih, List.length_cons, Nat.add_mul]; omega

theorem row_drop {α : Type} {s : Nat} {cells : α → List Value} (hc : ∀ a, (cells a).length = s) : ∀ (l : List α) (j : Nat), (l.flatMap cells).drop (j * s) = (l.drop j).flatMap cells := by
  intro l
  induction l with
  | nil => intro j; simp
  | cons p l ih =>
    intro j
    cases j with
    | zero => simp
    | succ j =>
      have : (j + 1) * s = s + j * s := by rw [Nat.add_mul]; omega
      rw [this, ← List.drop_drop, List.flatMap_cons, List.drop_left' (hc p), ih, List.drop_succ_cons]

theorem row_at {α : Type} {s off : Nat} {cells : α → List Value} (hc : ∀ a, (cells a).length = s) {cur : Array Value} {l : List α} (h : (cur.toList.drop off).take (l.length * s) = l.flatMap cells) {j : Nat} {p : α} (hj : l[j]? = some p) (h0 : 0 < s) :
    off + j * s + s ≤ cur.size ∧ cur.extract (off + j * s) (off + j * s + s) = (cells p).toArray := by
  obtain ⟨hlt, he⟩ := List.getElem?_eq_some_iff.1 hj
  have hlen := row_len hc l
  have hs : cur.toList.length = cur.size := Array.length_toList
  have hle : l.length * s ≤ cur.size - off := by
    have := congrArg List.length h
    rw [hlen, List.length_take, List.length_drop] at this
    omega
  have hjs : j * s + s ≤ l.length * s := by rw [← Nat.succ_mul]; exact Nat.mul_le_mul_right _ hlt
  refine ⟨by omega, ?_⟩
  apply Array.ext'
  have e : (cur.extract (off + j * s) (off + j * s + s)).toList = ((cur.toList.drop off).drop (j * s)).take s := by
    rw [List.drop_drop]
    simp [List.take_drop, Nat.add_comm]
  rw [e]
  have e2 : ((cur.toList.drop off).drop (j * s)).take s = (((cur.toList.drop off).take (l.length * s)).drop (j * s)).take s := by
    rw [List.drop_take, List.take_take]
    congr 1; omega
  rw [e2, h, row_drop hc, List.drop_eq_getElem_cons hlt, he, List.flatMap_cons, List.take_left' (hc p)]

theorem vc_gen {P : Program} {ro : Option Nat} {n : Nat} {c : CC} {Q : QT} {ρ : Env} {ds : List Deferred} {w : World} (h : ∀ W, W = w → vc P ro n c Q ρ ds W) : vc P ro n c Q ρ ds w := h w rfl
theorem rawK_gen {P : Program} {go : Value → World → Prop} {n : Nat} {o : Oper} {ρ : Env} {ds : List Deferred} {w : World} (h : ∀ W, W = w → RawK P go ρ ds n o W) : RawK P go ρ ds n o w := h w rfl

def pairC (p : ByteArray × ByteArray) : List Value := [.string p.1, .string p.2]

/-- registry.New. -/
theorem new_c (l : List (ByteArray × ByteArray)) (v : Value) (w : World) (K : Value → World → Prop) (hv : (l = [] ∧ ∃ c, v = .slice none 0 c) ∨ RowAt w v 29 2 pairC l) (hl : l.length < 2 ^ 20) (hk : ∀ p ∈ l, p.1.size ≤ maxLen ∧ p.2.size ≤ maxLen)
    (h : ∀ w' sb mb, Mod (fun _ => False) w w' → w.heap.size ≤ sb → w.heap.size ≤ mb → IsShelf w' sb mb l.length (l.foldl (fun m p => putM p.1.data.toList p.2.data.toList m) []) → K (ptr sb) w') :
    Ok Proofs.Tryz.prog 12 #[v] w K := by
  have hv' : ∃ a, v = .slice a l.length (match v with | .slice _ _ c => c | _ => 0) := by
    rcases hv with ⟨rfl, c, rfl⟩ | ⟨g, off, cap, cur, rfl, _⟩ <;> exact ⟨_, rfl⟩
  obtain ⟨a, ha⟩ := hv'
  refine F12.enter (args := [v]) (by simp) ?_
  unfold c12 r12
  simp only [vc_seq, vc_ops, vcOps_nil, vcOps_cons, goL_apply, thenQ_normal, updO_some, ev_const, insVc]
  refine rawK_makeMap rfl ?_
  simp only [vc_seq, vc_block, vc_ops, vcOps_nil, vcOps_cons, goL_apply, thenQ_normal, upd_same, upd_other, updO_some, ev_tmp, ev_const, initE_at, insVc, lenLK, buildK, fillL, Value.cells, ne_eq, not_false_eq_true, Nat.reduceLeDiff, reduceCtorEq, Option.getD_some, List.getElem?_cons_zero, List.size_toArray, List.length_cons, List.length_nil, List.zipIdx_cons, List.zipIdx_nil, List.foldl_cons, List.foldl_nil, List.setIfInBounds_toArray, List.set_cons_zero, List.toList_toArray, and_self, if_true, Nat.zero_add, size_alloc, size_alloc, ha, List.length_cons]
  refine vc_loop (fun m ρ ds w' => ds = [] ∧ ρ 3 = ptr (w.heap.size + 1) ∧ ρ 9 = v ∧ ρ 10 = .int .i64 l.length ∧ Mod (fun _ => False) w w' ∧
    ∃ i : Nat, i + m = l.length ∧ ρ 11 = .int .i64 i ∧ IsShelf w' (w.heap.size + 1) w.heap.size i ((l.take i).foldl (fun m p => putM p.1.data.toList p.2.data.toList m) [])) l.length ?_ ?_
  · refine ⟨rfl, by simp only [upd_same, upd_other, ne_eq, not_false_eq_true, Nat.reduceEqDiff, Nat.reduceEqDiff], by simp only [upd_same, upd_other, ne_eq, not_false_eq_true, Nat.reduceEqDiff]; rw [← ha], by simp only [upd_same, upd_other, ne_eq, not_false_eq_true, Nat.reduceEqDiff], ((Mod.refl _ _).alloc _).alloc _, 0, by simp, by simp only [upd_same]; rfl, ?_, ?_, by omega⟩
    · simp only [if_true, if_false, size_alloc, get_alloc, size_alloc, Nat.add_eq_left, Nat.one_ne_zero]
    · exact (World.ownsMap_made w Proofs.Tryz.prog 9 _).alloc _
  · rintro k ρ ds w' ⟨rfl, h3, h9, h10, hm, i, him, h11, hsh⟩
    simp only [vc_seq, vc_cond, vc_ops, vcOps_nil, vcOps_cons, goL_apply, thenQ_normal, upd_same, updO_some, ev_tmp, insVc, loadV_some, iopK, iopV, reduceCtorEq, true_and, or_false, h10, h11]
    by_cases hi : (i : Int) < l.length
    · obtain ⟨p, hp1⟩ : ∃ p, l[i]? = some p := ⟨_, List.getElem?_eq_getElem (by omega)⟩
      have hpk := hk p (List.mem_of_getElem? hp1)
      rcases hv with ⟨rfl, c, rfl⟩ | ⟨g, off, cap, cur, rfl, hg, hcur⟩
      · simp at him; simp at hi; omega
      · obtain ⟨hsz, hex⟩ := row_at (s := 2) (cells := pairC) (fun _ => rfl) hcur hp1 (by decide)
        simp only [vc_skip, vc_seq, vc_block, vc_ops, vcOps_nil, vcOps_cons, goL_apply, thenQ_normal, condP_true, upd_same, upd_other, updO_some, updO_none, ev_tmp, insVc, loadNK, loadNO_cells, storeNK, storeNO_cells, setMany, iaddrK, isPlain, Value.cells, ne_eq, not_false_eq_true, Nat.reduceEqDiff, Nat.reduceAdd, Nat.reduceLeDiff, List.size_toArray, List.length_cons, List.length_nil, List.setIfInBounds_toArray, List.set_cons_zero, List.set_cons_succ, true_and, and_true, and_self, Nat.zero_add, decide_true, Bool.and_true, Int.toNat_natCast, List.all_toArray', List.all_cons, List.all_nil, get_alloc_new, hi, h9, h11, hm.keep hg id, hex, pairC]
        refine ⟨by omega, hsz, ?_⟩
        refine vc_gen ?_
        intro w1 hw1
        have hm1 : Mod (fun _ => False) w' w1 := by rw [hw1]; exact ((Mod.refl _ _).alloc _).set (.inl (Nat.le_refl _))
        have e1 : w1.heap[w'.heap.size]? = some (.cells #[.string p.1, .string p.2] 29 (0, 0)) := by rw [hw1]; simp only [size_alloc, get_set_same, Nat.lt_add_one, size_alloc]
        clear hw1
        have hsh1 := hsh.keep hm1 id id
        have hwl := hm.size
        have hne1 : w'.heap.size ≠ w.heap.size := by have := World.ownsMap.lt hsh.2.1; omega
        have hne2 : w'.heap.size ≠ w.heap.size + 1 := by have := lt_of_get hsh.1; omega
        refine draw_d (fun W => W.heap[w'.heap.size]? = some (.cells #[.string p.1, .string p.2] 29 (0, 0)) ∧ W.heap[w.heap.size + 1]? = some (.cells #[.map (some w.heap.size)] 123 (0, 0))) (by kernel_rfl) (by kernel_rfl) (by kernel_rfl) (by kernel_rfl) ⟨e1, hsh1.1⟩ ?_
        simp only [vc_ops, vcOps_nil, vcOps_cons, goL_apply, thenQ_normal, blockQ_normal, upd_same, upd_other, updO_some, updO_none, ev_tmp, ev_const, insVc, loadV_some, nilK, nilM, iopK, iopV, faddrK, ne_eq, not_false_eq_true, Nat.reduceEqDiff, reduceCtorEq, true_and, or_false, if_true, if_false, Bool.false_eq_true, Nat.zero_add, Nat.add_zero, pureI, vcD_nil, vcD_cons, stepD_pure, stepD_load, stepD_step, kindI, loadI, h3]
        refine loadD1 (b := w.heap.size + 1) (o := 0) (v := .map (some w.heap.size)) rfl (fun W hW => ⟨_, _, _, hW.2, rfl⟩) ?_
        refine loadD1 (b := w'.heap.size) (o := 0) (v := .string p.1) rfl (fun W hW => ⟨_, _, _, hW.1, rfl⟩) ?_
        refine loadD1 (b := w'.heap.size) (o := 1) (v := .string p.2) rfl (fun W hW => ⟨_, _, _, hW.1, rfl⟩) ?_
        obtain ⟨w2, hr, hM2, hmod2⟩ := IsM.store (w := w1.drew) hsh1.2.1 p.1 p.2 hpk.1 hpk.2 (by simp [maxLen]; omega)
        refine rawK_mapUpdate rfl rfl rfl rfl (by simpa only [vc_skip, vc_seq, vc_cond, vc_block, vc_exit, vc_ret, vc_ops, vcOps_nil, vcOps_cons, vcOps_gate, gateK_true, gateK_false, gate_true, gate_false, gate_undef, goL_apply, thenQ_normal, thenQ_ret, thenQ_exit, blockQ_normal, blockQ_ret, blockQ_same, blockQ_exit, condP_true, condP_false, upd_same, upd_other, updO_some, updO_none, ev_tmp, ev_const, ev_global, ev_func, endQ_ret, endQ_normal, endK, resK, resN, res1, resO_cells, resNO_cells, packed, initE_at, insVc, pickK, load1K, loadO_cells, loadV_some, loadV_none, loadNK, loadNO_cells, storeK, storeO_cells, storeNK, storeNO_cells, setMany, nilK, nilM, iopK, iopV, sopK, sopV, bopK, nilOf, pnilK, notK, convK, sameK, faddrK, fld1K, fldNK, iaddrK, iaddrAK, sidxK, extK, lenSK, lenLK, callvK, invK, buildK, fillL, buildSK, boundOf, slSK, slLK, slAK, isPlain, Value.cells, ne_eq, not_false_eq_true, not_true_eq_false, Nat.reduceEqDiff, Nat.reduceAdd, Nat.reduceLT, Nat.reduceLeDiff, reduceCtorEq, Bool.not_true, Bool.not_false, Option.map_some, Option.map_none, Option.getD_some, Option.getD_none, List.map_cons, List.map_nil, List.getElem?_cons_zero, List.getElem?_cons_succ, List.getElem?_nil, List.getElem?_toArray, List.size_toArray, List.length_cons, List.length_nil, List.zipIdx_cons, List.zipIdx_nil, List.foldl_cons, List.foldl_nil, List.setIfInBounds_toArray, List.set_cons_zero, List.set_cons_succ, List.append_eq, List.nil_append, List.cons_append, List.append_nil, List.toList_toArray, true_and, and_true, true_or, or_true, or_false, false_or, and_self, if_true, if_false, ite_true, ite_false, Bool.false_eq_true, Nat.zero_add, Nat.add_zero, decide_true, decide_false, Bool.and_true, Bool.and_false, Bool.true_and, Bool.false_and, Option.isNone_some, Option.isNone_none, Int.reduceLT, Int.reduceLE, Int.reduceToNat, Int.toNat_natCast, Int.reduceAdd, Int.reduceSub, Int.reduceMul, Int.reduceNeg, Int.reduceEq, Int.reduceNe, Int.reduceBEq, Int.reduceBNe, Nat.mul_one, List.extract_toArray, List.extract_eq_take_drop, List.drop_zero, List.drop_succ_cons, List.take_zero, List.take_succ_cons, Nat.sub_zero, Nat.add_sub_cancel, Nat.add_sub_cancel_left, vcS_nil, vcS_cons, vcS_gate, gateS_true, gateS_false, stepB_true, stepB_false, pureI, Nat.zero_mul, Nat.one_mul, Nat.reduceMul, Nat.reduceSub, List.all_toArray', List.all_cons, List.all_nil, size_set, size_alloc, size_drew, get_alloc_new, get_set_same, get_drew, Nat.lt_add_one, vcD_nil, vcD_cons, vcD_gate, gateD_true, gateD_false, stepD_pure, stepD_load, stepD_step, kindI, loadI] using hr) ?_
        have f1 := hmod2.keep (show w1.drew.heap[w'.heap.size]? = _ from e1) hne1
        have f2 := hmod2.keep (show w1.drew.heap[w.heap.size + 1]? = _ from hsh1.1) (by omega)
        refine ⟨⟨f1, f2⟩, ?_⟩
        simp only [true_and, h9, h10, h11]
        refine ⟨k - 1, by omega, ?_, i + 1, by omega, by rw [wrap_i64 _ (by omega)]; rfl, f2, ?_, by omega⟩
        · exact (hm.trans hm1).drew.then hmod2 (fun i hi hk => by omega)
        · have e : l.take (i + 1) = l.take i ++ [p] := by rw [List.take_add_one, hp1]; rfl
          rw [e, List.foldl_append]
          exact hM2
    · have hil : i = l.length := by omega
      subst hil
      simp only [vc_seq, vc_exit, vc_ret, vc_ops, vcOps_nil, vcOps_cons, goL_apply, thenQ_normal, thenQ_exit, blockQ_same, condP_false, upd_same, upd_other, updO_some, ev_tmp, endQ_ret, endK, resK, packed, insVc, ne_eq, not_false_eq_true, Nat.reduceEqDiff, List.nil_append, decide_false, hi, h3]
      rw [List.take_length] at hsh
      exact h w' _ _ hm (by omega) (Nat.le_refl _) hsh

end Go.Oct
