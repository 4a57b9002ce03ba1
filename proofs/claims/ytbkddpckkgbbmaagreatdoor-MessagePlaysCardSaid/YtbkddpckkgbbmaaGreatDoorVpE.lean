import Derived.Test.YtbkddpckkgbbmaaGreatDoorVpC
set_option linter.unusedSimpArgs false
set_option linter.unusedVariables false
set_option linter.unusedSectionVars false
set_option linter.unnecessarySimpa false
namespace Go.Oct
open Go Go.Vc Go.VrA Go.VrB
set_option maxRecDepth 100000

/-! ### message.keys, put, Add, Get -/

def keysR (m : Ms) : ByteArray × ByteArray × Int :=
  if (messageK m.queue m.id).2 ≠ 0 ∨ m.expiry = 0 then ((messageK m.queue m.id).1, e0, (messageK m.queue m.id).2) else ((messageK m.queue m.id).1, (termK m.expiry m.queue m.id).1, (termK m.expiry m.queue m.id).2)

theorem keys_c (q : Ms) (m : Int) (w : World) (K : Value → World → Prop) (hg : Gl m w) (hs : q.queue.size < 4294967281) (hi : q.id < 2 ^ 64) (he : q.expiry < 2 ^ 64)
    (h : ∀ w', Mod (fun _ => False) w w' → K (.tuple #[.string (keysR q).1, .string (keysR q).2.1, .int .i64 (keysR q).2.2]) w') :
    Ok Proofs.Tryz.prog 65 #[q.val] w K := by
  refine F65.enter (args := [q.val]) (by simp) ?_
  unfold c65 r65
  simp only [vc_seq, vc_ops, vcOps_nil, vcOps_cons, goL_apply, thenQ_normal, upd_same, upd_other, updO_some, ev_tmp, ev_const, initE_at, insVc, load1K, loadO_cells, loadV_some, faddrK, Value.cells, ne_eq, not_false_eq_true, Nat.reduceEqDiff, Option.getD_some, List.map_cons, List.map_nil, List.getElem?_cons_zero, List.getElem?_cons_succ, List.getElem?_toArray, Nat.zero_add, Nat.add_zero, get_alloc_new, Ms.val, Ms.cells]
  refine callK_gen ?_
  intro w1 hw1
  have hm1 : Mod (fun _ => False) w w1 := by rw [hw1]; exact (Mod.refl _ _).alloc _
  have e1 : w1.heap[w.heap.size]? = some (.cells #[.string q.queue, .int .u64 q.id, .int .u32 q.tries, .int .u64 q.expiry, .string q.body] 49 (0, 0)) := by rw [hw1]; exact get_alloc_new _ _
  clear hw1
  refine message_c q.queue q.id m w1 _ (hg.mod hm1 id) hs hi ?_
  intro w2 hm2
  have e2 := hm2.keep e1 id
  have hm12 := hm1.trans hm2
  have tail : ∀ (G : Value → World → Prop), (messageK q.queue q.id).2 = 0 → q.expiry ≠ 0 → (∀ w', Mod (fun _ => False) w w' → G (.tuple #[.string (termK q.expiry q.queue q.id).1, .int .i64 (termK q.expiry q.queue q.id).2]) w') → Ok Proofs.Tryz.prog 24 #[.int .u64 q.expiry, .string q.queue, .int .u64 q.id] w2 G := by
    intro G _ _ hG
    exact term_c q.expiry q.queue q.id m w2 G (hg.mod hm12 id) he hs hi (fun w' hm' => hG w' (hm12.trans hm'))
  unfold keysR at h
  by_cases h1 : (messageK q.queue q.id).2 = 0
  · have b1 : ((messageK q.queue q.id).2 != 0) = false := by simpa using h1
    by_cases h2 : q.expiry = 0
    · have b2 : (((0 : Nat) : Int) == 0) = true := rfl
      rw [if_pos (.inr h2)] at h
      simp only [vc_seq, vc_cond, vc_ret, vc_ops, vcOps_nil, vcOps_cons, vcOps_gate, gateK_true, gate_false, goL_apply, thenQ_normal, thenQ_ret, condP_true, upd_same, upd_other, updO_some, ev_tmp, ev_const, endQ_ret, endK, resK, packed, insVc, pickK, load1K, loadO_cells, loadV_some, iopK, iopV, faddrK, extK, ne_eq, not_false_eq_true, Nat.reduceEqDiff, reduceCtorEq, Bool.not_false, List.getElem?_cons_zero, List.getElem?_cons_succ, List.getElem?_toArray, List.nil_append, List.cons_append, true_and, or_false, if_false, Bool.false_eq_true, Nat.zero_add, b1, e2, h2, b2]
      exact h w2 hm12
    · have b2 : ((q.expiry : Int) == 0) = false := by rw [beq_eq_false_iff_ne]; omega
      rw [if_neg (by simp [h1, h2])] at h
      simp only [vc_skip, vc_seq, vc_cond, vc_ops, vcOps_nil, vcOps_cons, vcOps_gate, gateK_true, gate_false, goL_apply, thenQ_normal, condP_false, upd_same, upd_other, updO_some, ev_tmp, ev_const, insVc, pickK, load1K, loadO_cells, loadV_some, iopK, iopV, faddrK, extK, ne_eq, not_false_eq_true, Nat.reduceEqDiff, reduceCtorEq, Bool.not_false, List.map_cons, List.map_nil, List.getElem?_cons_zero, List.getElem?_cons_succ, List.getElem?_toArray, true_and, or_false, if_false, Bool.false_eq_true, Nat.zero_add, Nat.add_zero, b1, e2, b2]
      refine tail _ h1 h2 ?_
      intro w' hm'
      simp only [vc_seq, vc_ret, vc_ops, vcOps_nil, vcOps_cons, goL_apply, thenQ_normal, upd_same, upd_other, updO_some, ev_tmp, endQ_ret, endK, resK, packed, insVc, loadV_some, extK, ne_eq, not_false_eq_true, Nat.reduceEqDiff, List.getElem?_cons_zero, List.getElem?_cons_succ, List.getElem?_toArray, List.nil_append, List.cons_append]
      exact h w' hm'
  · have b1 : ((messageK q.queue q.id).2 != 0) = true := by simpa using h1
    rw [if_pos (.inl h1)] at h
    simp only [vc_seq, vc_cond, vc_ret, vc_ops, vcOps_nil, vcOps_cons, vcOps_gate, gateK_false, gate_false, goL_apply, thenQ_normal, thenQ_ret, condP_true, upd_same, upd_other, updO_some, ev_tmp, ev_const, endQ_ret, endK, resK, packed, insVc, pickK, loadV_some, iopK, iopV, extK, ne_eq, not_false_eq_true, Nat.reduceEqDiff, reduceCtorEq, Bool.not_true, List.getElem?_cons_zero, List.getElem?_cons_succ, List.getElem?_toArray, List.nil_append, List.cons_append, true_and, or_false, if_true, b1]
    exact h w2 hm12

def Sto.mput {σ : Type} (St : Sto σ) (s : σ) (q : Ms) : Int × σ :=
  if (keysR q).2.2 ≠ 0 then ((keysR q).2.2, s) else
  if (St.put s (keysR q).1 (mbytes q)).1 ≠ 0 ∨ emptyB (keysR q).2.1 = true then St.put s (keysR q).1 (mbytes q) else
  St.put (St.put s (keysR q).1 (mbytes q)).2 (keysR q).2.1 ⟨#[]⟩

theorem mput66_c {σ : Type} (St : Sto σ) (s : σ) (q : Ms) (m : Int) (w : World) (K : Value → World → Prop) (hAt : St.At s w) (hg : Gl m w) (hs : q.queue.size < 4294967281) (hi : q.id < 2 ^ 64) (hq : q.good)
    (hf : St.fit s) (hf2 : St.fit (St.put s (keysR q).1 (mbytes q)).2)
    (h : ∀ w', Mod St.own w w' → St.At (St.mput s q).2 w' → K (.int .i64 (St.mput s q).1) w') :
    Ok Proofs.Tryz.prog 66 #[.iface St.t St.v, q.val] w K := by
  refine F66.enter (args := [.iface St.t St.v, q.val]) (by simp) ?_
  unfold c66 r66
  simp only [vc_seq, vc_ops, vcOps_nil, vcOps_cons, goL_apply, thenQ_normal, upd_same, upd_other, updO_some, ev_tmp, ev_const, initE_at, insVc, loadNK, loadNO_cells, Value.cells, ne_eq, not_false_eq_true, Nat.reduceEqDiff, Nat.reduceAdd, Nat.reduceLeDiff, Option.getD_some, List.map_cons, List.map_nil, List.getElem?_cons_zero, List.getElem?_cons_succ, List.size_toArray, List.length_cons, List.length_nil, true_and, Nat.zero_add, List.extract_toArray, List.extract_eq_take_drop, List.drop_zero, List.take_zero, List.take_succ_cons, Nat.sub_zero, get_alloc_new, Ms.val, Ms.cells]
  refine callK_gen ?_
  intro w1 hw1
  have hm1 : Mod (fun _ => False) w w1 := by rw [hw1]; exact (Mod.refl _ _).alloc _
  have e1 : w1.heap[w.heap.size]? = some (.cells #[.string q.queue, .int .u64 q.id, .int .u32 q.tries, .int .u64 q.expiry, .string q.body] 49 (0, 0)) := by rw [hw1]; exact get_alloc_new _ _
  clear hw1
  refine keys_c q m w1 _ (hg.mod hm1 id) hs hi hq.2.1 ?_
  intro w2 hm2
  have e2 := hm2.keep e1 id
  have hm12 := hm1.trans hm2
  have hA2 := St.keep0 hAt hm12
  unfold Sto.mput at h
  have hfoot : ¬ St.foot w.heap.size := fun x => by have := St.footLt s w _ hAt x; omega
  have hno : ¬ St.own w.heap.size := fun x => hfoot (St.ownFoot _ x)
  simp only [vc_seq, vc_cond, vc_ops, vcOps_nil, vcOps_cons, goL_apply, thenQ_normal, upd_same, upd_other, updO_some, ev_tmp, ev_const, insVc, loadV_some, iopK, iopV, extK, ne_eq, not_false_eq_true, Nat.reduceEqDiff, reduceCtorEq, List.getElem?_cons_zero, List.getElem?_cons_succ, List.getElem?_toArray, true_and, or_false]
  refine condP_split ?_ ?_
  · intro hc
    have hc' : (keysR q).2.2 ≠ 0 := by simpa using hc
    rw [if_pos hc'] at h
    simp only [vc_seq, vc_ret, vc_ops, vcOps_nil, vcOps_cons, goL_apply, thenQ_normal, thenQ_ret, upd_same, upd_other, updO_some, ev_tmp, endQ_ret, endK, resK, packed, insVc, ne_eq, not_false_eq_true, Nat.reduceEqDiff, List.nil_append]
    exact h w2 (hm12.mono fun _ _ x => x.elim) hA2
  intro hc
  have hc' : (keysR q).2.2 = 0 := by simpa using hc
  rw [if_neg (by simpa using hc')] at h
  simp only [vc_skip, vc_seq, thenQ_normal]
  refine draw_d (fun W => W.heap[w.heap.size]? = some (.cells #[.string q.queue, .int .u64 q.id, .int .u32 q.tries, .int .u64 q.expiry, .string q.body] 49 (0, 0))) (by kernel_rfl) (by kernel_rfl) (by kernel_rfl) (by kernel_rfl) e2 ?_
  simp only [vc_seq, vc_ops, vcOps_cons, vcOps_gate, gate_false, goL_apply, thenQ_normal, upd_same, upd_other, updO_some, ev_tmp, ev_const, initE_at, insVc, loadV_some, nilK, nilM, iopK, iopV, faddrK, invK, ne_eq, not_false_eq_true, Nat.reduceEqDiff, reduceCtorEq, Option.getD_some, List.map_cons, List.map_nil, List.getElem?_cons_zero, List.getElem?_toArray, true_and, or_false, if_true, if_false, Bool.false_eq_true, Nat.zero_add, Nat.add_zero, pureI, vcD_nil, vcD_cons, stepD_pure, stepD_load, stepD_step, kindI, loadI, St.putNil, implies_true]
  refine loadD1 (b := w.heap.size) (o := 0) (v := .string q.queue) rfl (fun W hW => ⟨_, _, _, hW, rfl⟩) ?_
  refine loadD1 (b := w.heap.size) (o := 1) (v := .int .u64 q.id) rfl (fun W hW => ⟨_, _, _, hW, rfl⟩) ?_
  refine messages_c q.queue q.id _ _ ?_
  intro w3 mv hm3 hM3
  have e3 := hm3.keep (show w2.drew.heap[w.heap.size]? = _ from e2) id
  refine ⟨e3, ?_⟩
  refine loadDN (b := w.heap.size) (o := 0) (v := q.val) (by simp only [upd_same, upd_other, ev_tmp, ne_eq, not_false_eq_true, Nat.reduceEqDiff]) (fun W hW => ⟨_, _, _, hW, by simp, rfl⟩) ?_
  refine mbytes_c mv _ q.queue q.id q w3 _ hM3 hq ?_
  intro w4 hm4
  have e4 := hm4.keep e3 id
  refine ⟨e4, ?_⟩
  have hm14 : Mod (fun _ => False) w w4 := (hm12.drew.trans hm3).trans hm4
  refine St.putOk s (keysR q).1 (mbytes q) w4 _ (St.keep0 hAt hm14) hf ?_
  intro w5 hm5 hA5
  refine ⟨hm5.keep e4 hno, ?_⟩
  have hm15 : Mod St.own w w5 := (hm14.mono fun _ _ x => x.elim).trans hm5
  revert h hf2 hA5
  generalize St.put s (keysR q).1 (mbytes q) = P
  intro hf2 h hA5
  simp only [true_and]
  have hfin : (P.1 ≠ 0 ∨ emptyB (keysR q).2.1 = true) → K (.int .i64 P.1) w5 := by
    intro hx
    rw [if_pos hx] at h
    exact h w5 hm15 hA5
  by_cases h1 : P.1 = 0
  · have b1 : (P.1 != 0) = false := by simpa using h1
    cases h2 : emptyB (keysR q).2.1 with
    | true =>
      have h2' : ((keysR q).2.1.toList == (⟨#[]⟩ : ByteArray).toList) = true := h2
      simp only [vc_seq, vc_cond, vc_ret, vc_ops, vcOps_nil, vcOps_cons, vcOps_gate, gateK_true, gate_false, goL_apply, thenQ_normal, thenQ_ret, condP_true, upd_same, upd_other, updO_some, ev_tmp, ev_const, endQ_ret, endK, resK, packed, insVc, pickK, loadV_some, sopK, sopV, ne_eq, not_false_eq_true, Nat.reduceEqDiff, Bool.not_false, List.nil_append, if_false, Bool.false_eq_true, b1, h2']
      exact hfin (.inr h2)
    | false =>
      have h2' : ((keysR q).2.1.toList == (⟨#[]⟩ : ByteArray).toList) = false := h2
      rw [if_neg (by simp [h1, h2])] at h
      simp only [vc_skip, vc_seq, vc_cond, vc_ops, vcOps_nil, vcOps_cons, vcOps_gate, gateK_true, gate_false, goL_apply, thenQ_normal, condP_false, upd_same, upd_other, updO_some, ev_tmp, ev_const, initE_at, insVc, pickK, loadV_some, sopK, sopV, invK, ne_eq, not_false_eq_true, Nat.reduceEqDiff, reduceCtorEq, Bool.not_false, Option.getD_some, List.map_cons, List.map_nil, List.getElem?_cons_zero, if_false, Bool.false_eq_true, b1, h2']
      refine St.putOk P.2 (keysR q).2.1 ⟨#[]⟩ w5 _ hA5 hf2 ?_
      intro w6 hm6 hA6
      simp only [vc_ret, vcOps_nil, vcOps_cons, goL_apply, thenQ_normal, upd_same, updO_some, ev_tmp, endQ_ret, endK, resK, packed, insVc, List.nil_append]
      exact h w6 (hm15.trans hm6) hA6
  · have b1 : (P.1 != 0) = true := by simpa using h1
    simp only [vc_seq, vc_cond, vc_ret, vc_ops, vcOps_nil, vcOps_cons, vcOps_gate, gateK_false, gate_false, goL_apply, thenQ_normal, thenQ_ret, condP_true, upd_same, upd_other, updO_some, ev_tmp, ev_const, endQ_ret, endK, resK, packed, insVc, pickK, ne_eq, not_false_eq_true, Nat.reduceEqDiff, Bool.not_true, List.nil_append, if_true, b1]
    exact hfin (.inl h1)

def Sto.madd {σ : Type} (St : Sto σ) (s : σ) (q : Ms) : Int × σ :=
  if (keysR q).2.2 ≠ 0 then ((keysR q).2.2, s) else
  if (St.get s (keysR q).1).1.2.2 ≠ 0 then ((St.get s (keysR q).1).1.2.2, (St.get s (keysR q).1).2) else
  if (St.get s (keysR q).1).1.2.1 = true then (22, (St.get s (keysR q).1).2) else St.mput (St.get s (keysR q).1).2 q

theorem keysR_size (q : Ms) : (keysR q).1.size ≤ 255 := by
  unfold keysR
  split
  · exact keyL_size _ _ (by simp)
  · exact keyL_size _ _ (by simp)

theorem madd_c {σ : Type} (St : Sto σ) (s : σ) (q : Ms) (m : Int) (w : World) (K : Value → World → Prop) (hAt : St.At s w) (hg : Gl m w) (hs : q.queue.size < 4294967281) (hi : q.id < 2 ^ 64) (hq : q.good)
    (hf : St.fit (St.get s (keysR q).1).2) (hf2 : St.fit (St.put (St.get s (keysR q).1).2 (keysR q).1 (mbytes q)).2) (h0 : 0 < w.heap.size)
    (h : ∀ w', Mod St.own w w' → St.At (St.madd s q).2 w' → K (.int .i64 (St.madd s q).1) w') :
    Ok Proofs.Tryz.prog 22 #[.iface St.t St.v, q.val] w K := by
  refine F22.enter (args := [.iface St.t St.v, q.val]) (by simp) ?_
  unfold c22 r22
  simp only [vc_seq, vc_ops, vcOps_nil, vcOps_cons, goL_apply, thenQ_normal, upd_same, upd_other, updO_some, ev_tmp, ev_const, initE_at, insVc, loadNK, loadNO_cells, Value.cells, ne_eq, not_false_eq_true, Nat.reduceEqDiff, Nat.reduceAdd, Nat.reduceLeDiff, Option.getD_some, List.map_cons, List.map_nil, List.getElem?_cons_zero, List.getElem?_cons_succ, List.size_toArray, List.length_cons, List.length_nil, true_and, Nat.zero_add, List.extract_toArray, List.extract_eq_take_drop, List.drop_zero, List.take_zero, List.take_succ_cons, Nat.sub_zero, get_alloc_new, Ms.val, Ms.cells]
  refine callK_gen ?_
  intro w1 hw1
  have hm1 : Mod (fun _ => False) w w1 := by rw [hw1]; exact (Mod.refl _ _).alloc _
  have e1 : w1.heap[w.heap.size]? = some (.cells #[.string q.queue, .int .u64 q.id, .int .u32 q.tries, .int .u64 q.expiry, .string q.body] 49 (0, 0)) := by rw [hw1]; exact get_alloc_new _ _
  clear hw1
  refine keys_c q m w1 _ (hg.mod hm1 id) hs hi hq.2.1 ?_
  intro w2 hm2
  have e2 := hm2.keep e1 id
  have hm12 := hm1.trans hm2
  have hA2 := St.keep0 hAt hm12
  unfold Sto.madd at h
  have hfoot : ¬ St.foot w.heap.size := fun x => by have := St.footLt s w _ hAt x; omega
  have hno : ¬ St.own w.heap.size := fun x => hfoot (St.ownFoot _ x)
  simp only [vc_seq, vc_cond, vc_ops, vcOps_nil, vcOps_cons, goL_apply, thenQ_normal, upd_same, upd_other, updO_some, ev_tmp, ev_const, insVc, loadV_some, iopK, iopV, extK, ne_eq, not_false_eq_true, Nat.reduceEqDiff, reduceCtorEq, List.getElem?_cons_zero, List.getElem?_cons_succ, List.getElem?_toArray, true_and, or_false]
  refine condP_split ?_ ?_
  · intro hc
    have hc' : (keysR q).2.2 ≠ 0 := by simpa using hc
    rw [if_pos hc'] at h
    simp only [vc_seq, vc_ret, vc_ops, vcOps_nil, vcOps_cons, goL_apply, thenQ_normal, thenQ_ret, upd_same, upd_other, updO_some, ev_tmp, endQ_ret, endK, resK, packed, insVc, ne_eq, not_false_eq_true, Nat.reduceEqDiff, List.nil_append]
    exact h w2 (hm12.mono fun _ _ x => x.elim) hA2
  intro hc
  have hc' : (keysR q).2.2 = 0 := by simpa using hc
  rw [if_neg (by simpa using hc')] at h
  simp only [vc_skip, vc_seq, vc_ops, vcOps_cons, goL_apply, thenQ_normal, upd_same, upd_other, updO_some, ev_tmp, initE_at, insVc, invK, ne_eq, not_false_eq_true, Nat.reduceEqDiff, reduceCtorEq, Option.getD_some, List.map_cons, List.map_nil, List.getElem?_cons_zero]
  refine St.getOk s (keysR q).1 w2 _ hA2 (keysR_size q) ?_
  intro w3 hm3 hA3
  have e3 := hm3.keep e2 hno
  have hm13 : Mod St.own w w3 := (hm12.mono fun _ _ x => x.elim).trans hm3
  revert h hf hf2 hA3
  generalize St.get s (keysR q).1 = G
  intro hf hf2 h hA3
  simp only [vc_seq, vc_cond, vc_block, vc_ops, vcOps_nil, vcOps_cons, goL_apply, thenQ_normal, upd_same, upd_other, updO_some, ev_tmp, ev_const, insVc, loadV_some, iopK, iopV, extK, ne_eq, not_false_eq_true, Nat.reduceEqDiff, reduceCtorEq, List.getElem?_cons_zero, List.getElem?_cons_succ, List.getElem?_toArray, true_and, or_false]
  refine condP_split ?_ ?_
  · intro hc
    have hc1 : G.1.2.2 ≠ 0 := by simpa using hc
    rw [if_pos hc1] at h
    simp only [vc_seq, vc_ret, vc_ops, vcOps_nil, vcOps_cons, goL_apply, thenQ_normal, thenQ_ret, blockQ_ret, upd_same, upd_other, updO_some, ev_tmp, endQ_ret, endK, resK, packed, insVc, ne_eq, not_false_eq_true, Nat.reduceEqDiff, List.nil_append]
    exact h w3 hm13 hA3
  intro hc
  have hc1 : G.1.2.2 = 0 := by simpa using hc
  rw [if_neg (by simpa using hc1)] at h
  simp only [vc_seq, vc_cond, vc_ops, vcOps_nil, vcOps_cons, goL_apply, thenQ_normal, upd_same, upd_other, updO_some, ev_tmp, insVc, ne_eq, not_false_eq_true, Nat.reduceEqDiff]
  refine condP_split ?_ ?_
  · intro hk
    rw [if_pos hk] at h
    simp only [vc_seq, vc_ret, vc_ops, vcOps_nil, vcOps_cons, goL_apply, thenQ_normal, thenQ_ret, blockQ_ret, upd_same, updO_some, ev_const, endQ_ret, endK, resK, packed, insVc, List.nil_append]
    exact h w3 hm13 hA3
  intro hk
  rw [if_neg (by simp [hk])] at h
  simp only [vc_skip, vc_seq, vc_ops, vcOps_cons, goL_apply, thenQ_normal, blockQ_normal, upd_same, upd_other, updO_some, ev_tmp, initE_at, insVc, loadNK, loadNO_cells, ne_eq, not_false_eq_true, Nat.reduceEqDiff, Nat.reduceAdd, Nat.reduceLeDiff, reduceCtorEq, Option.getD_some, List.map_cons, List.map_nil, List.getElem?_cons_zero, List.size_toArray, List.length_cons, List.length_nil, true_and, Nat.zero_add, List.extract_toArray, List.extract_eq_take_drop, List.drop_zero, List.take_zero, List.take_succ_cons, Nat.sub_zero, e3]
  refine mput66_c St G.2 q m w3 _ hA3 (hg.mod hm13 (fun x => St.own0 x)) hs hi hq hf hf2 ?_
  intro w4 hm4 hA4
  simp only [vc_ret, vcOps_nil, vcOps_cons, goL_apply, thenQ_normal, upd_same, updO_some, ev_tmp, endQ_ret, endK, resK, packed, insVc, List.nil_append]
  exact h w4 (hm13.trans hm4) hA4

end Go.Oct

namespace Go.Oct
open Go Go.Vc Go.VrA Go.VrB
set_option maxRecDepth 100000

/-! ### message.Get, and what Due asks of each term -/

def PureGet {σ : Type} (St : Sto σ) (s : σ) : Prop := ∀ k w (G : Value → World → Prop), St.At s w → k.size ≤ 255 →
  (∀ w', Mod (fun _ => False) w w' → G (.tuple #[.string (St.get s k).1.1, .bool (St.get s k).1.2.1, .int .i64 (St.get s k).1.2.2]) w') → InvK Proofs.Tryz.prog G St.t St.v "Get" [.string k] w
theorem pureGet_shelf (sb mb : Nat) (h0 : 0 ≠ mb) (s : Nat × M) : PureGet (shelf sb mb h0) s :=
  fun k w G h hk hG => ⟨286, ptr sb, by kernel_rfl, sget_c sb mb s.1 s.2 k w G h (by simp [maxLen]; omega) (hG w (Mod.refl _ _))⟩

def mfound (queue : ByteArray) (n : Nat) (g : ByteArray × Bool × Int) : Ms × Int :=
  if g.2.2 ≠ 0 then (ms0, g.2.2) else if g.2.1 = false then (ms0, 21) else mread queue n g.1
def Sto.mgetR {σ : Type} (St : Sto σ) (s : σ) (queue : ByteArray) (n : Nat) : Ms × Int :=
  if (messageK queue n).2 ≠ 0 then (ms0, 21) else mfound queue n (St.get s (messageK queue n).1).1

theorem msget_c {σ : Type} (St : Sto σ) (s : σ) (hp : PureGet St s) (queue : ByteArray) (n : Nat) (m : Int) (w : World) (K : Value → World → Prop) (hAt : St.At s w) (hg : Gl m w) (hs : queue.size < 4294967281) (hn : n < 2 ^ 64)
    (hv : (St.get s (messageK queue n).1).1.1.size < 2 ^ 60)
    (h : ∀ w', Mod (fun _ => False) w w' → K (.tuple #[(St.mgetR s queue n).1.val, .int .i64 (St.mgetR s queue n).2]) w') :
    Ok Proofs.Tryz.prog 36 #[.iface St.t St.v, .string queue, .int .u64 n] w K := by
  refine F36.enter (args := [.iface St.t St.v, .string queue, .int .u64 n]) (by simp) ?_
  unfold c36 r36
  simp only [vc_seq, vc_ops, vcOps_nil, vcOps_cons, goL_apply, thenQ_normal, upd_same, upd_other, updO_some, ev_tmp, ev_const, initE_at, insVc, Value.cells, ne_eq, not_false_eq_true, Nat.reduceEqDiff, Option.getD_some, List.map_cons, List.map_nil, List.getElem?_cons_zero, List.getElem?_cons_succ]
  refine callK_gen ?_
  intro w1 hw1
  have hm1 : Mod (fun _ => False) w w1 := by rw [hw1]; exact (Mod.refl _ _).alloc _
  have e1 : w1.heap[w.heap.size]? = some (.cells zms 49 (0, 0)) := by rw [hw1]; exact get_alloc_new _ _
  clear hw1
  refine message_c queue n m w1 _ (hg.mod hm1 id) hs hn ?_
  intro w2 hm2
  have e2 := hm2.keep e1 id
  have hm12 := hm1.trans hm2
  have hA2 := St.keep0 hAt hm12
  unfold Sto.mgetR at h
  simp only [vc_seq, vc_cond, vc_ops, vcOps_nil, vcOps_cons, goL_apply, thenQ_normal, upd_same, upd_other, updO_some, ev_tmp, ev_const, insVc, loadV_some, iopK, iopV, extK, ne_eq, not_false_eq_true, Nat.reduceEqDiff, reduceCtorEq, List.getElem?_cons_zero, List.getElem?_cons_succ, List.getElem?_toArray, true_and, or_false]
  refine condP_split ?_ ?_
  · intro hc
    have hc' : (messageK queue n).2 ≠ 0 := by simpa using hc
    rw [if_pos hc'] at h
    simp only [vc_seq, vc_ret, vc_ops, vcOps_nil, vcOps_cons, goL_apply, thenQ_normal, thenQ_ret, upd_same, upd_other, updO_some, updO_none, ev_tmp, ev_const, endQ_ret, endK, resK, resN, resNO_cells, packed, insVc, storeNK, storeNO_cells, setMany, buildK, fillL, isPlain, ne_eq, not_false_eq_true, Nat.reduceEqDiff, Nat.reduceAdd, Nat.reduceLeDiff, List.size_toArray, List.length_cons, List.length_nil, List.setIfInBounds_toArray, List.set_cons_zero, List.set_cons_succ, List.nil_append, List.cons_append, true_and, and_self, Nat.zero_add, Bool.and_true, List.extract_toArray, List.extract_eq_take_drop, List.drop_zero, List.take_zero, List.take_succ_cons, Nat.sub_zero, List.all_toArray', List.all_cons, List.all_nil, e2, get_set_same _ _ _ (lt_of_get e2)]
    exact h _ (hm12.set (.inl (Nat.le_refl _)))
  intro hc
  have hc' : (messageK queue n).2 = 0 := by simpa using hc
  rw [if_neg (by simpa using hc')] at h
  simp only [vc_skip, vc_seq, vc_ops, vcOps_cons, goL_apply, thenQ_normal, upd_same, upd_other, updO_some, ev_tmp, initE_at, insVc, invK, ne_eq, not_false_eq_true, Nat.reduceEqDiff, reduceCtorEq, Option.getD_some, List.map_cons, List.map_nil, List.getElem?_cons_zero]
  refine hp (messageK queue n).1 w2 _ hA2 (keyL_size _ _ (by simp)) ?_
  intro w3 hm3
  have e3 := hm3.keep e2 id
  have hm13 := hm12.trans hm3
  revert hv h
  generalize (St.get s (messageK queue n).1).1 = g
  intro hv h
  unfold mfound at h
  simp only [vc_seq, vc_cond, vc_block, vc_ops, vcOps_nil, vcOps_cons, goL_apply, thenQ_normal, upd_same, upd_other, updO_some, ev_tmp, ev_const, insVc, loadV_some, iopK, iopV, extK, ne_eq, not_false_eq_true, Nat.reduceEqDiff, reduceCtorEq, List.getElem?_cons_zero, List.getElem?_cons_succ, List.getElem?_toArray, true_and, or_false]
  refine condP_split ?_ ?_
  · intro hk
    have hk' : g.2.2 ≠ 0 := by simpa using hk
    rw [if_pos hk'] at h
    simp only [vc_seq, vc_ret, vc_ops, vcOps_nil, vcOps_cons, goL_apply, thenQ_normal, thenQ_ret, blockQ_ret, upd_same, upd_other, updO_some, updO_none, ev_tmp, endQ_ret, endK, resK, resN, resNO_cells, packed, insVc, storeNK, storeNO_cells, setMany, buildK, fillL, isPlain, ne_eq, not_false_eq_true, Nat.reduceEqDiff, Nat.reduceAdd, Nat.reduceLeDiff, List.size_toArray, List.length_cons, List.length_nil, List.setIfInBounds_toArray, List.set_cons_zero, List.set_cons_succ, List.nil_append, List.cons_append, true_and, and_self, Nat.zero_add, Bool.and_true, List.extract_toArray, List.extract_eq_take_drop, List.drop_zero, List.take_zero, List.take_succ_cons, Nat.sub_zero, List.all_toArray', List.all_cons, List.all_nil, e3, get_set_same _ _ _ (lt_of_get e3)]
    exact h _ (hm13.set (.inl (Nat.le_refl _)))
  intro hk
  have hk' : g.2.2 = 0 := by simpa using hk
  rw [if_neg (by simpa using hk')] at h
  simp only [vc_seq, vc_cond, vc_ops, vcOps_nil, vcOps_cons, goL_apply, thenQ_normal, upd_same, upd_other, updO_some, ev_tmp, insVc, notK, ne_eq, not_false_eq_true, Nat.reduceEqDiff]
  refine condP_split ?_ ?_
  · intro hb
    have hb' : g.2.1 = false := by simpa using hb
    rw [if_pos hb'] at h
    simp only [vc_seq, vc_ret, vc_ops, vcOps_nil, vcOps_cons, goL_apply, thenQ_normal, thenQ_ret, blockQ_ret, upd_same, upd_other, updO_some, updO_none, ev_tmp, ev_const, endQ_ret, endK, resK, resN, resNO_cells, packed, insVc, storeNK, storeNO_cells, setMany, buildK, fillL, isPlain, ne_eq, not_false_eq_true, Nat.reduceEqDiff, Nat.reduceAdd, Nat.reduceLeDiff, List.size_toArray, List.length_cons, List.length_nil, List.setIfInBounds_toArray, List.set_cons_zero, List.set_cons_succ, List.nil_append, List.cons_append, true_and, and_self, Nat.zero_add, Bool.and_true, List.extract_toArray, List.extract_eq_take_drop, List.drop_zero, List.take_zero, List.take_succ_cons, Nat.sub_zero, List.all_toArray', List.all_cons, List.all_nil, e3, get_set_same _ _ _ (lt_of_get e3)]
    exact h _ (hm13.set (.inl (Nat.le_refl _)))
  intro hb
  have hb' : g.2.1 = true := by simpa using hb
  rw [if_neg (by simp [hb'])] at h
  simp only [vc_skip, vc_seq, vc_ops, vcOps_cons, goL_apply, thenQ_normal, blockQ_normal, upd_same, upd_other, updO_some, ev_tmp, initE_at, insVc, ne_eq, not_false_eq_true, Nat.reduceEqDiff, Option.getD_some, List.map_cons, List.map_nil, List.getElem?_cons_zero, List.getElem?_cons_succ]
  refine messages_c queue n w3 _ ?_
  intro w4 mv hm4 hM4
  simp only [vcOps_cons, goL_apply, upd_same, upd_other, updO_some, ev_tmp, insVc, ne_eq, not_false_eq_true, Nat.reduceEqDiff, List.map_cons, List.map_nil]
  refine mread_c mv _ queue n g.1 w4 _ hM4 hv ?_
  intro w5 hm5
  have e5 := (hm4.trans hm5).keep e3 id
  simp only [vc_ret, vcOps_nil, vcOps_cons, goL_apply, thenQ_normal, upd_same, upd_other, updO_some, updO_none, ev_tmp, endQ_ret, endK, resK, resN, resNO_cells, packed, insVc, loadV_some, storeNK, storeNO_cells, setMany, extK, isPlain, ne_eq, not_false_eq_true, Nat.reduceEqDiff, Nat.reduceAdd, Nat.reduceLeDiff, List.getElem?_cons_zero, List.getElem?_cons_succ, List.getElem?_toArray, List.size_toArray, List.length_cons, List.length_nil, List.setIfInBounds_toArray, List.set_cons_zero, List.set_cons_succ, List.nil_append, List.cons_append, true_and, and_self, Nat.zero_add, Bool.and_true, List.extract_toArray, List.extract_eq_take_drop, List.drop_zero, List.take_zero, List.take_succ_cons, Nat.sub_zero, List.all_toArray', List.all_cons, List.all_nil, Ms.val, Ms.cells, e5, get_set_same _ _ _ (lt_of_get e5)]
  exact h _ (((hm13.trans hm4).trans hm5).set (.inl (Nat.le_refl _)))

def dueG {σ : Type} (St : Sto σ) (s : σ) (t : Th) : Ms × Int :=
  if (St.mgetR s t.queue t.id).2 = 21 ∨ ((St.mgetR s t.queue t.id).2 = 0 ∧ (St.mgetR s t.queue t.id).1.expiry ≠ t.at_) then (ms0, 31) else St.mgetR s t.queue t.id

theorem due1_c {σ : Type} (St : Sto σ) (s : σ) (hp : PureGet St s) (t : Th) (v : ByteArray) (cb : Nat) (m : Int) (w : World) (K : Value → World → Prop) (hAt : St.At s w) (hg : Gl m w) (hs : t.queue.size < 4294967281) (hn : t.id < 2 ^ 64)
    (hv : (St.get s (messageK t.queue t.id).1).1.1.size < 2 ^ 60) (hcb : w.heap[cb]? = some (.cells #[.iface St.t St.v] 125 (0, 0)))
    (h : ∀ w', Mod (fun _ => False) w w' → K (.tuple #[(dueG St s t).1.val, .int .i64 (dueG St s t).2]) w') :
    Ok Proofs.Tryz.prog 71 #[t.val, .string v, ptr cb] w K := by
  refine F71.enter (args := [t.val, .string v, ptr cb]) (by simp) ?_
  unfold c71 r71
  have hcl := lt_of_get hcb
  have f1 : ¬ cb = w.heap.size + 1 := by omega
  simp only [vc_seq, vc_ops, vcOps_nil, vcOps_cons, goL_apply, thenQ_normal, upd_same, upd_other, updO_some, ev_tmp, ev_const, initE_at, insVc, load1K, loadO_cells, loadV_some, faddrK, Value.cells, ne_eq, not_false_eq_true, Nat.reduceEqDiff, Option.getD_some, List.map_cons, List.map_nil, List.getElem?_cons_zero, List.getElem?_cons_succ, List.getElem?_toArray, if_true, if_false, Nat.zero_add, size_alloc, get_alloc, size_alloc, Nat.left_eq_add, Nat.reduceEqDiff, Nat.one_ne_zero, Th.val, Th.cells, hcb, Nat.ne_of_lt hcl, f1]
  refine callK_gen ?_
  intro w1 hw1
  have hm1 : Mod (fun _ => False) w w1 := by rw [hw1]; exact ((Mod.refl _ _).alloc _).alloc _
  have t1 : w1.heap[w.heap.size]? = some (.cells #[.string t.sort, .string t.queue, .int .u64 t.id, .int .u64 t.at_, .string t.bx, .int .i64 t.bkind, .string t.bkey, .string t.bq, .string t.name] 98 (0, 0)) := by rw [hw1]; simp only [if_true, if_false, size_alloc, get_alloc, size_alloc, Nat.left_eq_add, Nat.one_ne_zero]
  have r1 : w1.heap[w.heap.size + 1]? = some (.cells zms 49 (0, 0)) := by rw [hw1]; simp only [if_true, if_false, size_alloc, get_alloc, size_alloc, Nat.add_eq_left, Nat.one_ne_zero]
  clear hw1
  refine msget_c St s hp t.queue t.id m w1 _ (St.keep0 hAt hm1) (hg.mod hm1 id) hs hn hv ?_
  intro w2 hm2
  have t2 := hm2.keep t1 id
  have r2 := hm2.keep r1 id
  have hm12 := hm1.trans hm2
  unfold dueG at h
  revert h
  generalize St.mgetR s t.queue t.id = G
  intro h
  have lt := lt_of_get t2
  have lr := lt_of_get r2
  have f2 := Nat.ne_of_lt lt
  have f3 := Nat.ne_of_lt lr
  have hbad : (G.2 = 21 ∨ (G.2 = 0 ∧ G.1.expiry ≠ t.at_)) → ∀ w', Mod (fun _ => False) w w' → K (.tuple #[.agg zms, .int .i64 31]) w' := by
    intro hx w' hm'
    rw [if_pos hx] at h
    exact h w' hm'
  have hgood : ¬ (G.2 = 21 ∨ (G.2 = 0 ∧ G.1.expiry ≠ t.at_)) → ∀ w', Mod (fun _ => False) w w' → K (.tuple #[G.1.val, .int .i64 G.2]) w' := by
    intro hx w' hm'
    rw [if_neg hx] at h
    exact h w' hm'
  have hmA : ∀ cs, Mod (fun _ => False) w (Vc.set (w2.alloc cs) w2.heap.size cs) := fun cs => (hm12.alloc _).set (.inl (by have := hm12.size; omega))
  have g3 : w.heap.size + 1 < w2.heap.size + 1 := by omega
  have g4 : ¬ w.heap.size + 1 = w2.heap.size := by omega
  have g5 : ¬ w2.heap.size = w.heap.size + 1 := by omega
  by_cases h21 : G.2 = 21
  · have b1 : (G.2 == 21) = true := by simpa using h21
    simp only [vc_seq, vc_cond, vc_ret, vc_ops, vcOps_nil, vcOps_cons, vcOps_gate, gateK_false, gate_false, gate_undef, goL_apply, thenQ_normal, thenQ_ret, condP_true, upd_same, upd_other, updO_some, updO_none, ev_tmp, ev_const, endQ_ret, endK, resK, resN, resNO_cells, packed, insVc, pickK, loadV_some, storeNK, storeNO_cells, setMany, iopK, iopV, extK, buildK, fillL, isPlain, Value.cells, ne_eq, not_false_eq_true, Nat.reduceEqDiff, Nat.reduceAdd, Nat.reduceLeDiff, reduceCtorEq, Bool.not_true, List.getElem?_cons_zero, List.getElem?_cons_succ, List.getElem?_toArray, List.size_toArray, List.length_cons, List.length_nil, List.setIfInBounds_toArray, List.set_cons_zero, List.set_cons_succ, List.nil_append, List.cons_append, true_and, and_true, or_false, and_self, if_true, if_false, Nat.zero_add, Bool.and_true, List.extract_toArray, List.extract_eq_take_drop, List.drop_zero, List.take_zero, List.take_succ_cons, Nat.sub_zero, List.all_toArray', List.all_cons, List.all_nil, size_set, size_alloc, get_set_same, Nat.lt_add_one, get_alloc, get_set, size_alloc, size_set, Nat.reduceAdd, Nat.reduceEqDiff, Ms.val, Ms.cells, b1, r2, g3, g4]
    exact hbad (.inl h21) _ (((hm12.alloc _).set (.inl (by have := hm12.size; omega))).set (.inl (by omega)))
  · have b1 : (G.2 == 21) = false := by simpa using h21
    by_cases h00 : G.2 = 0
    · have b2 : (((0 : Int)) == 0) = true := rfl
      have b3 : (((0 : Int)) == 21) = false := rfl
      by_cases hx : G.1.expiry = t.at_
      · have b4 : ((G.1.expiry : Int) != (t.at_ : Int)) = false := by rw [hx]; simp
        have hh := hgood (by rw [h00]; simp [hx])
        rw [h00] at hh
        simp only [vc_skip, vc_seq, vc_cond, vc_ret, vc_ops, vcOps_nil, vcOps_cons, vcOps_gate, gateK_true, gate_true, gate_false, goL_apply, thenQ_normal, condP_false, upd_same, upd_other, updO_some, updO_none, ev_tmp, ev_const, endQ_ret, endK, resK, resN, resNO_cells, packed, insVc, pickK, load1K, loadO_cells, loadV_some, loadNK, loadNO_cells, storeNK, storeNO_cells, setMany, iopK, iopV, faddrK, extK, isPlain, Value.cells, ne_eq, not_false_eq_true, Nat.reduceEqDiff, Nat.reduceAdd, Nat.reduceLeDiff, reduceCtorEq, Bool.not_false, List.getElem?_cons_zero, List.getElem?_cons_succ, List.getElem?_toArray, List.size_toArray, List.length_cons, List.length_nil, List.setIfInBounds_toArray, List.set_cons_zero, List.set_cons_succ, List.nil_append, List.cons_append, true_and, and_true, or_false, and_self, if_true, if_false, Bool.false_eq_true, Nat.zero_add, Bool.and_true, List.extract_toArray, List.extract_eq_take_drop, List.drop_zero, List.take_zero, List.take_succ_cons, Nat.sub_zero, List.all_toArray', List.all_cons, List.all_nil, size_set, size_alloc, get_set_same, Nat.lt_add_one, get_alloc, get_set, size_alloc, size_set, Nat.reduceAdd, Nat.reduceEqDiff, Ms.val, Ms.cells, h00, b2, b3, b4, t2, f2, r2, g3, g4]
        exact hh _ (((hm12.alloc _).set (.inl (by have := hm12.size; omega))).set (.inl (by omega)))
      · have b4 : ((G.1.expiry : Int) != (t.at_ : Int)) = true := by rw [bne_iff_ne]; omega
        simp only [vc_seq, vc_cond, vc_ret, vc_ops, vcOps_nil, vcOps_cons, vcOps_gate, gateK_true, gate_true, gate_false, goL_apply, thenQ_normal, thenQ_ret, condP_true, upd_same, upd_other, updO_some, updO_none, ev_tmp, ev_const, endQ_ret, endK, resK, resN, resNO_cells, packed, insVc, pickK, load1K, loadO_cells, loadV_some, storeNK, storeNO_cells, setMany, iopK, iopV, faddrK, extK, buildK, fillL, isPlain, Value.cells, ne_eq, not_false_eq_true, Nat.reduceEqDiff, Nat.reduceAdd, Nat.reduceLeDiff, reduceCtorEq, Bool.not_false, List.getElem?_cons_zero, List.getElem?_cons_succ, List.getElem?_toArray, List.size_toArray, List.length_cons, List.length_nil, List.setIfInBounds_toArray, List.set_cons_zero, List.set_cons_succ, List.nil_append, List.cons_append, true_and, and_true, or_false, and_self, if_true, if_false, Bool.false_eq_true, Nat.zero_add, Bool.and_true, List.extract_toArray, List.extract_eq_take_drop, List.drop_zero, List.take_zero, List.take_succ_cons, Nat.sub_zero, List.all_toArray', List.all_cons, List.all_nil, size_set, size_alloc, get_set_same, Nat.lt_add_one, get_alloc, get_set, size_alloc, size_set, Nat.reduceAdd, Nat.reduceEqDiff, Ms.val, Ms.cells, h00, b2, b3, b4, t2, f2, r2, g3, g4]
        exact hbad (.inr ⟨h00, hx⟩) _ (((hm12.alloc _).set (.inl (by have := hm12.size; omega))).set (.inl (by omega)))
    · have b2 : (G.2 == 0) = false := by simpa using h00
      simp only [vc_skip, vc_seq, vc_cond, vc_ret, vc_ops, vcOps_nil, vcOps_cons, vcOps_gate, gateK_true, gateK_false, gate_true, gate_false, goL_apply, thenQ_normal, condP_false, upd_same, upd_other, updO_some, updO_none, ev_tmp, ev_const, endQ_ret, endK, resK, resN, resNO_cells, packed, insVc, pickK, loadV_some, loadNK, loadNO_cells, storeNK, storeNO_cells, setMany, iopK, iopV, extK, isPlain, Value.cells, ne_eq, not_false_eq_true, Nat.reduceEqDiff, Nat.reduceAdd, Nat.reduceLeDiff, reduceCtorEq, Bool.not_false, List.getElem?_cons_zero, List.getElem?_cons_succ, List.getElem?_toArray, List.size_toArray, List.length_cons, List.length_nil, List.setIfInBounds_toArray, List.set_cons_zero, List.set_cons_succ, List.nil_append, List.cons_append, true_and, and_true, or_false, and_self, if_true, if_false, Bool.false_eq_true, Nat.zero_add, Bool.and_true, List.extract_toArray, List.extract_eq_take_drop, List.drop_zero, List.take_zero, List.take_succ_cons, Nat.sub_zero, List.all_toArray', List.all_cons, List.all_nil, size_set, size_alloc, get_set_same, Nat.lt_add_one, get_alloc, get_set, size_alloc, size_set, Nat.reduceAdd, Nat.reduceEqDiff, Ms.val, Ms.cells, b1, b2, r2, g3, g4]
      exact hgood (by simp [h21, h00]) _ (((hm12.alloc _).set (.inl (by have := hm12.size; omega))).set (.inl (by omega)))

end Go.Oct
