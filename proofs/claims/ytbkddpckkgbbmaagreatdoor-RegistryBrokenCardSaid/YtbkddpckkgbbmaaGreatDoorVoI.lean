import Derived.Test.YtbkddpckkgbbmaaGreatDoorVoH
import Derived.Test.YtbkddpckkgbbmaaGreatDoorVsMap
import Derived.WideMake
namespace Go.Oct
open Go Go.Vc Go.VrA
set_option maxRecDepth 100000

/-! ### registry.Shelf -/

section
variable {P : Program} {n : Nat} {go : Value → World → Prop} {ρ : Env} {ds : List Deferred} {w : World} {o : Oper}
theorem rawK_lookup {x i : Operand} {t : TypeId} {ok : Bool} {v : Value} {w' : World} (ho : o.op = .lookup t x i ok) (hx : inB n x = true) (hi : inB n i = true)
    (hr : (Instr.lookup t (ev ρ x) (ev ρ i) ok).run P w = .ok v w') (h : go v w') : RawK P go ρ ds n o w := by
  unfold RawK
  simp only [execOp, ho, Sem.run_bind, mkA_eval n ρ ds x hx, mkA_eval n ρ ds i hi, hr, Result.andThen, pure, Sem.run]
  exact h
theorem rawK_mapUpdate {m k x : Operand} {t : TypeId} {w' : World} (ho : o.op = .mapUpdate t m k x) (hm : inB n m = true) (hk : inB n k = true) (hx : inB n x = true)
    (hr : (Instr.mapUpdate t (ev ρ m) (ev ρ k) (ev ρ x)).run P w = .ok () w') (h : go undef w') : RawK P go ρ ds n o w := by
  unfold RawK
  simp only [execOp, ho, Sem.run_bind, mkA_eval n ρ ds m hm, mkA_eval n ρ ds k hk, mkA_eval n ρ ds x hx, hr, Result.andThen, pure, Sem.run]
  exact h
theorem rawK_makeMap {t : TypeId} (ho : o.op = .makeMap t none) (h : go (.map (some w.heap.size)) (w.alloc (.map #[] 0))) : RawK P go ρ ds n o w := by
  unfold RawK
  simp only [execOp, ho, Sem.run_bind, Option.map_none, run_makeMap_plain, Result.andThen, pure, Sem.run]
  exact h
end

def IsM (w : World) (mb n : Nat) (m : M) : Prop := w.ownsMap Proofs.Tryz.prog 9 (plainElem Proofs.Tryz.prog 9) mb n (DM m)
def IsShelf (w : World) (sb mb n : Nat) (m : M) : Prop := w.heap[sb]? = some (.cells #[.map (some mb)] 123 (0, 0)) ∧ IsM w mb n m ∧ sb ≠ mb

theorem tStr : (Proofs.Tryz.prog).underlying 9 = some .string := by kernel_rfl
theorem tMap : (Proofs.Tryz.prog).underlying 121 = some (.map 9 9) := by kernel_rfl
theorem zStr (w : World) : (zeroValue 9).run Proofs.Tryz.prog w = .ok (.string ⟨#[]⟩) w := by kernel_rfl

theorem IsM.keep {w w' : World} {S : Nat → Prop} {mb n : Nat} {m : M} (h : IsM w mb n m) (hm : Mod S w w') (hs : ¬ S mb) : IsM w' mb n m := by
  have hlt := World.ownsMap.lt h
  obtain ⟨es, clock, hb, F, hsz, hD⟩ := h
  exact ⟨es, clock, hm.keep hb hs, F, hsz, hD⟩
theorem IsShelf.keep {w w' : World} {S : Nat → Prop} {sb mb n : Nat} {m : M} (h : IsShelf w sb mb n m) (hm : Mod S w w') (hs : ¬ S sb) (hs' : ¬ S mb) : IsShelf w' sb mb n m :=
  ⟨hm.keep h.1 hs, h.2.1.keep hm hs', h.2.2⟩

theorem IsM.look {w : World} {mb n : Nat} {m : M} (h : IsM w mb n m) (k : ByteArray) (hk : k.size ≤ maxLen) (ok : Bool) :
    (Instr.lookup 121 (.map (some mb)) (.string k) ok).run Proofs.Tryz.prog w = .ok (if ok then .tuple #[.string ⟨((lookM k.data.toList m).getD []).toArray⟩, .bool (lookM k.data.toList m).isSome] else .string ⟨((lookM k.data.toList m).getD []).toArray⟩) w := by
  have inv : ∀ v ps, plainElem (H := Unit) Proofs.Tryz.prog 9 v = some ((DM m).atKey (.string k.data.toList) (.lit (.string [])), ps) → v = .string ⟨((lookM k.data.toList m).getD []).toArray⟩ := by
    intro v ps hv
    rw [DM_at] at hv
    unfold plainElem at hv
    rw [tStr] at hv
    cases v <;> simp at hv
    rename_i s
    obtain ⟨_, h1, _⟩ := hv
    rw [← h1]
  cases ok with
  | true =>
    obtain ⟨v, ps, hr, hv⟩ := World.ownsMap.look_ok h (Maps.string_keyed tStr) tMap (zStr w) (plainElem_string tStr (by simp [ByteArray.size, maxLen])) (WideMaps.keyOf_string_mk tStr hk)
    rw [hr, inv v ps hv, DM_has]; rfl
  | false =>
    obtain ⟨v, ps, hr, hv⟩ := World.ownsMap.lookup h (Maps.string_keyed tStr) tMap (zStr w) (plainElem_string tStr (by simp [ByteArray.size, maxLen])) (WideMaps.keyOf_string_mk tStr hk)
    rw [hr, inv v ps hv]; rfl

theorem IsM.store {w : World} {mb n : Nat} {m : M} (h : IsM w mb n m) (k v : ByteArray) (hk : k.size ≤ maxLen) (hv : v.size ≤ maxLen) (hn : n < maxLen) :
    ∃ w', (Instr.mapUpdate 121 (.map (some mb)) (.string k) (.string v)).run Proofs.Tryz.prog w = .ok () w' ∧ IsM w' mb (n + 1) (putM k.data.toList v.data.toList m) ∧ Mod (fun i => i = mb) w w' := by
  obtain ⟨w', hr, ho, hg⟩ := World.ownsMap.update h (Maps.string_keyed tStr) tMap hn (WideMaps.keyOf_string_mk tStr hk) (plainElem_string (H := Unit) tStr hv)
  refine ⟨w', hr, ?_, ⟨hg.os, hg.tape, hg.output, hg.size, fun i hi hs => hg.block i hi (fun e => hs (Option.some.inj e))⟩⟩
  unfold IsM
  rw [← DM_put]
  exact ho

theorem sget_c (sb mb n : Nat) (m : M) (k : ByteArray) (w : World) (K : Value → World → Prop) (hs : IsShelf w sb mb n m) (hk : k.size ≤ maxLen)
    (h : K (.tuple #[.string ⟨((lookM k.data.toList m).getD []).toArray⟩, .bool (lookM k.data.toList m).isSome, .int .i64 0]) w) :
    Ok Proofs.Tryz.prog 286 #[ptr sb, .string k] w K := by
  refine F286.enter (args := [ptr sb, .string k]) (by simp) ?_
  unfold c286 r286
  simp only [vc_seq, vc_ops, vcOps_nil, vcOps_cons, goL_apply, thenQ_normal, upd_same, upd_other, updO_some, ev_tmp, ev_const, initE_at, insVc, load1K, loadO_cells, loadV_some, nilK, faddrK, ne_eq, not_false_eq_true, Nat.reduceEqDiff, reduceCtorEq, Option.getD_some, List.getElem?_cons_zero, List.getElem?_cons_succ, List.getElem?_toArray, Nat.add_zero, hs.1]
  refine rawK_lookup rfl rfl rfl (by simpa only [vc_skip, vc_seq, vc_cond, vc_block, vc_exit, vc_ret, vc_ops, vcOps_nil, vcOps_cons, vcOps_gate, gateK_true, gateK_false, gate_true, gate_false, gate_undef, goL_apply, thenQ_normal, thenQ_ret, thenQ_exit, blockQ_normal, blockQ_ret, blockQ_same, blockQ_exit, condP_true, condP_false, upd_same, upd_other, updO_some, updO_none, ev_tmp, ev_const, ev_global, ev_func, endQ_ret, endQ_normal, endK, resK, resN, res1, resO_cells, resNO_cells, packed, initE_at, insVc, pickK, load1K, loadO_cells, loadV_some, loadV_none, loadNK, loadNO_cells, storeK, storeO_cells, storeNK, storeNO_cells, setMany, nilK, nilM, iopK, iopV, sopK, sopV, bopK, nilOf, pnilK, notK, convK, sameK, faddrK, fld1K, fldNK, iaddrK, iaddrAK, sidxK, extK, lenSK, lenLK, callvK, invK, buildK, fillL, buildSK, boundOf, slSK, slLK, slAK, isPlain, Value.cells, ne_eq, not_false_eq_true, not_true_eq_false, Nat.reduceEqDiff, Nat.reduceAdd, Nat.reduceLT, Nat.reduceLeDiff, reduceCtorEq, Bool.not_true, Bool.not_false, Option.map_some, Option.map_none, Option.getD_some, Option.getD_none, List.map_cons, List.map_nil, List.getElem?_cons_zero, List.getElem?_cons_succ, List.getElem?_nil, List.getElem?_toArray, List.size_toArray, List.length_cons, List.length_nil, List.zipIdx_cons, List.zipIdx_nil, List.foldl_cons, List.foldl_nil, List.setIfInBounds_toArray, List.set_cons_zero, List.set_cons_succ, List.append_eq, List.nil_append, List.cons_append, List.append_nil, List.toList_toArray, true_and, and_true, true_or, or_true, or_false, false_or, and_self, if_true, if_false, ite_true, ite_false, Bool.false_eq_true, Nat.zero_add, Nat.add_zero, decide_true, decide_false, Bool.and_true, Bool.and_false, Bool.true_and, Bool.false_and, Option.isNone_some, Option.isNone_none, Int.reduceLT, Int.reduceLE, Int.reduceToNat, Int.toNat_natCast, Int.reduceAdd, Int.reduceSub, Int.reduceMul, Int.reduceNeg, Int.reduceEq, Int.reduceNe, Int.reduceBEq, Int.reduceBNe, Nat.mul_one, List.extract_toArray, List.extract_eq_take_drop, List.drop_zero, List.drop_succ_cons, List.take_zero, List.take_succ_cons, Nat.sub_zero, Nat.add_sub_cancel, Nat.add_sub_cancel_left, vcS_nil, vcS_cons, vcS_gate, gateS_true, gateS_false, stepB_true, stepB_false, pureI, Nat.zero_mul, Nat.one_mul, Nat.reduceMul, Nat.reduceSub, List.all_toArray', List.all_cons, List.all_nil, size_set, size_alloc, size_drew, get_alloc_new, get_set_same, get_drew, Nat.lt_add_one, vcD_nil, vcD_cons, vcD_gate, gateD_true, gateD_false, stepD_pure, stepD_load, stepD_step, kindI, loadI] using hs.2.1.look k hk true) ?_
  simp only [vc_seq, vc_ret, vc_ops, vcOps_nil, vcOps_cons, goL_apply, thenQ_normal, upd_same, upd_other, updO_some, ev_tmp, ev_const, endQ_ret, endK, resK, packed, insVc, loadV_some, extK, ne_eq, not_false_eq_true, Nat.reduceEqDiff, List.getElem?_cons_zero, List.getElem?_cons_succ, List.getElem?_toArray, List.nil_append, List.cons_append]
  exact h

theorem sput_c (sb mb n : Nat) (m : M) (k v : ByteArray) (w : World) (K : Value → World → Prop) (hs : IsShelf w sb mb n m) (hn : n < maxLen)
    (h1 : k.size > 255 ∨ v.size > 65536 → K (.int .i64 5) w)
    (h2 : ¬ (k.size > 255 ∨ v.size > 65536) → ∀ w', Mod (fun i => i = mb) w w' → IsShelf w' sb mb (n + 1) (putM k.data.toList v.data.toList m) → K (.int .i64 0) w') :
    Ok Proofs.Tryz.prog 25 #[ptr sb, .string k, .string v] w K := by
  refine F25.enter (args := [ptr sb, .string k, .string v]) (by simp) ?_
  unfold c25 r25
  simp only [vc_seq, vc_ops, vcOps_nil, vcOps_cons, vcOps_gate, gate_false, goL_apply, thenQ_normal, upd_same, upd_other, updO_some, ev_tmp, ev_const, initE_at, insVc, loadV_some, iopK, iopV, lenSK, ne_eq, not_false_eq_true, Nat.reduceEqDiff, reduceCtorEq, Option.getD_some, List.getElem?_cons_zero, List.getElem?_cons_succ, true_and, or_false]
  have fin : ¬ (k.size > 255 ∨ v.size > 65536) → ∃ w', (Instr.mapUpdate 121 (.map (some mb)) (.string k) (.string v)).run Proofs.Tryz.prog w = .ok () w' ∧ K (.int .i64 0) w' := by
    intro hc
    obtain ⟨w', hr, hm, hmod⟩ := hs.2.1.store k v (by simp [maxLen]; omega) (by simp [maxLen]; omega) hn
    exact ⟨w', hr, h2 hc w' hmod ⟨hmod.keep hs.1 hs.2.2, hm, hs.2.2⟩⟩
  by_cases c1 : (k.size : Int) > 255
  · simp only [vc_seq, vc_cond, vc_ret, vc_ops, vcOps_nil, vcOps_cons, vcOps_gate, gateK_false, gate_false, goL_apply, thenQ_normal, thenQ_ret, condP_true, upd_same, upd_other, updO_some, ev_tmp, ev_const, endQ_ret, endK, resK, packed, insVc, pickK, ne_eq, not_false_eq_true, Nat.reduceEqDiff, Bool.not_true, List.nil_append, if_true, decide_true, c1]
    exact h1 (.inl (by omega))
  · simp only [vc_cond, vcOps_nil, vcOps_cons, vcOps_gate, gateK_true, gate_false, goL_apply, thenQ_normal, upd_same, upd_other, updO_some, ev_tmp, ev_const, initE_at, insVc, pickK, loadV_some, iopK, iopV, lenSK, ne_eq, not_false_eq_true, Nat.reduceEqDiff, reduceCtorEq, Bool.not_false, Option.getD_some, List.getElem?_cons_zero, List.getElem?_cons_succ, true_and, or_false, if_false, Bool.false_eq_true, decide_false, c1]
    by_cases c2 : (v.size : Int) > 65536
    · simp only [vc_seq, vc_ret, vc_ops, vcOps_nil, vcOps_cons, goL_apply, thenQ_normal, thenQ_ret, condP_true, upd_same, updO_some, ev_const, endQ_ret, endK, resK, packed, insVc, List.nil_append, decide_true, c2]
      exact h1 (.inr (by omega))
    · simp only [vc_skip, vc_seq, vc_ops, vcOps_cons, goL_apply, thenQ_normal, condP_false, upd_same, upd_other, updO_some, ev_tmp, initE_at, insVc, load1K, loadO_cells, loadV_some, nilK, faddrK, ne_eq, not_false_eq_true, Nat.reduceEqDiff, reduceCtorEq, Option.getD_some, List.getElem?_cons_zero, List.getElem?_cons_succ, List.getElem?_toArray, Nat.add_zero, decide_false, c2, hs.1]
      obtain ⟨w', hr, hk⟩ := fin (by omega)
      refine rawK_mapUpdate rfl rfl rfl rfl (by simpa only [vc_skip, vc_seq, vc_cond, vc_block, vc_exit, vc_ret, vc_ops, vcOps_nil, vcOps_cons, vcOps_gate, gateK_true, gateK_false, gate_true, gate_false, gate_undef, goL_apply, thenQ_normal, thenQ_ret, thenQ_exit, blockQ_normal, blockQ_ret, blockQ_same, blockQ_exit, condP_true, condP_false, upd_same, upd_other, updO_some, updO_none, ev_tmp, ev_const, ev_global, ev_func, endQ_ret, endQ_normal, endK, resK, resN, res1, resO_cells, resNO_cells, packed, initE_at, insVc, pickK, load1K, loadO_cells, loadV_some, loadV_none, loadNK, loadNO_cells, storeK, storeO_cells, storeNK, storeNO_cells, setMany, nilK, nilM, iopK, iopV, sopK, sopV, bopK, nilOf, pnilK, notK, convK, sameK, faddrK, fld1K, fldNK, iaddrK, iaddrAK, sidxK, extK, lenSK, lenLK, callvK, invK, buildK, fillL, buildSK, boundOf, slSK, slLK, slAK, isPlain, Value.cells, ne_eq, not_false_eq_true, not_true_eq_false, Nat.reduceEqDiff, Nat.reduceAdd, Nat.reduceLT, Nat.reduceLeDiff, reduceCtorEq, Bool.not_true, Bool.not_false, Option.map_some, Option.map_none, Option.getD_some, Option.getD_none, List.map_cons, List.map_nil, List.getElem?_cons_zero, List.getElem?_cons_succ, List.getElem?_nil, List.getElem?_toArray, List.size_toArray, List.length_cons, List.length_nil, List.zipIdx_cons, List.zipIdx_nil, List.foldl_cons, List.foldl_nil, List.setIfInBounds_toArray, List.set_cons_zero, List.set_cons_succ, List.append_eq, List.nil_append, List.cons_append, List.append_nil, List.toList_toArray, true_and, and_true, true_or, or_true, or_false, false_or, and_self, if_true, if_false, ite_true, ite_false, Bool.false_eq_true, Nat.zero_add, Nat.add_zero, decide_true, decide_false, Bool.and_true, Bool.and_false, Bool.true_and, Bool.false_and, Option.isNone_some, Option.isNone_none, Int.reduceLT, Int.reduceLE, Int.reduceToNat, Int.toNat_natCast, Int.reduceAdd, Int.reduceSub, Int.reduceMul, Int.reduceNeg, Int.reduceEq, Int.reduceNe, Int.reduceBEq, Int.reduceBNe, Nat.mul_one, List.extract_toArray, List.extract_eq_take_drop, List.drop_zero, List.drop_succ_cons, List.take_zero, List.take_succ_cons, Nat.sub_zero, Nat.add_sub_cancel, Nat.add_sub_cancel_left, vcS_nil, vcS_cons, vcS_gate, gateS_true, gateS_false, stepB_true, stepB_false, pureI, Nat.zero_mul, Nat.one_mul, Nat.reduceMul, Nat.reduceSub, List.all_toArray', List.all_cons, List.all_nil, size_set, size_alloc, size_drew, get_alloc_new, get_set_same, get_drew, Nat.lt_add_one, vcD_nil, vcD_cons, vcD_gate, gateD_true, gateD_false, stepD_pure, stepD_load, stepD_step, kindI, loadI] using hr) ?_
      simp only [vc_seq, vc_ret, vc_ops, vcOps_nil, vcOps_cons, goL_apply, thenQ_normal, upd_same, updO_some, updO_none, ev_const, endQ_ret, endK, resK, packed, insVc, List.nil_append]
      exact hk

end Go.Oct
