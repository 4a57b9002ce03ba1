import Derived.Test.YtbkddpckkgbbmaaGreatDoorVoW
import Derived.Test.YtbkddpckkgbbmaaGreatDoorVrB
set_option linter.unusedSimpArgs false
set_option linter.unusedVariables false
set_option linter.unusedSectionVars false
set_option linter.unnecessarySimpa false
namespace Go.Oct
open Go Go.Vc Go.VrA Go.VrB
set_option maxRecDepth 100000

/-! ### schema.Message, schema.Term -/

def messageK (queue : ByteArray) (n : Nat) : ByteArray × Int := keyL [str ⟨#[109]⟩, str queue, num' n] []
def termK (at_ : Nat) (queue : ByteArray) (n : Nat) : ByteArray × Int := keyL [str ⟨#[101]⟩, num' at_, str queue, num' n] []

theorem message_c (queue : ByteArray) (n : Nat) (m : Int) (w : World) (K : Value → World → Prop) (hg : Gl m w) (hs : queue.size < 4294967281) (hn : n < 2 ^ 64)
    (h : ∀ w', Mod (fun _ => False) w w' → K (.tuple #[.string (messageK queue n).1, .int .i64 (messageK queue n).2]) w') :
    Ok Proofs.Tryz.prog 100 #[.string queue, .int .u64 n] w K := by
  refine F100.enter (args := [.string queue, .int .u64 n]) (by simp) ?_
  unfold c100 r100
  simp only [vc_seq, vc_ops, vcOps_nil, vcOps_cons, goL_apply, thenQ_normal, upd_same, upd_other, updO_some, ev_tmp, ev_const, initE_at, insVc, ne_eq, not_false_eq_true, reduceCtorEq, Option.getD_some, List.map_cons, List.map_nil, List.getElem?_cons_zero]
  refine str_c queue w _ ?_
  intro w1 hm1
  simp only [vcOps_cons, goL_apply, upd_same, upd_other, updO_some, ev_tmp, initE_at, insVc, ne_eq, not_false_eq_true, Nat.reduceEqDiff, Option.getD_some, List.map_cons, List.map_nil, List.getElem?_cons_zero, List.getElem?_cons_succ, Pt.val, Pt.cells, str]
  refine num_c n w1 _ ?_
  intro w2 hm2
  simp only [vcOps_cons, goL_apply, upd_same, upd_other, updO_some, ev_tmp, ev_const, insVc, fillL, buildSK, Value.cells, ne_eq, not_false_eq_true, Nat.reduceEqDiff, Nat.reduceAdd, Nat.reduceLeDiff, List.map_cons, List.map_nil, List.size_toArray, List.length_cons, List.length_nil, List.zipIdx_cons, List.zipIdx_nil, List.foldl_cons, List.foldl_nil, List.setIfInBounds_toArray, List.set_cons_zero, List.set_cons_succ, List.toList_toArray, and_self, if_true, Nat.zero_add, Nat.add_zero, Pt.val, Pt.cells, num']
  have hm3 := (hm1.trans hm2).alloc (.cells #[.bool true, .int .u64 0, .string queue, .bool false, .int .u64 n, .string e0] 118)
  refine key_c ⟨#[109]⟩ [str queue, num' n] _ m _ _ (hg.mod hm3 id) (.inr (pts_lit w2 [str queue, num' n] _ rfl)) (by simp) (by decide) ?_ ?_
  · intro p hp
    rcases List.mem_cons.1 hp with rfl | hp
    · exact ⟨by simp [str], hs⟩
    · rcases List.mem_cons.1 hp with rfl | hp
      · exact ⟨hn, by simp [num', e0, ByteArray.size]⟩
      · cases hp
  intro w4 hm4
  simp only [vc_ret, vcOps_nil, vcOps_cons, goL_apply, thenQ_normal, upd_same, upd_other, updO_some, ev_tmp, endQ_ret, endK, resK, packed, insVc, loadV_some, extK, ne_eq, not_false_eq_true, Nat.reduceEqDiff, List.getElem?_cons_zero, List.getElem?_cons_succ, List.getElem?_toArray, List.nil_append, List.cons_append]
  exact h w4 (hm3.trans hm4)

theorem term_c (at_ : Nat) (queue : ByteArray) (n : Nat) (m : Int) (w : World) (K : Value → World → Prop) (hg : Gl m w) (ha : at_ < 2 ^ 64) (hs : queue.size < 4294967281) (hn : n < 2 ^ 64)
    (h : ∀ w', Mod (fun _ => False) w w' → K (.tuple #[.string (termK at_ queue n).1, .int .i64 (termK at_ queue n).2]) w') :
    Ok Proofs.Tryz.prog 24 #[.int .u64 at_, .string queue, .int .u64 n] w K := by
  refine F24.enter (args := [.int .u64 at_, .string queue, .int .u64 n]) (by simp) ?_
  unfold c24 r24
  simp only [vc_seq, vc_ops, vcOps_nil, vcOps_cons, goL_apply, thenQ_normal, upd_same, upd_other, updO_some, ev_tmp, ev_const, initE_at, insVc, ne_eq, not_false_eq_true, reduceCtorEq, Option.getD_some, List.map_cons, List.map_nil, List.getElem?_cons_zero]
  refine num_c at_ w _ ?_
  intro w0 hm0
  simp only [vcOps_cons, goL_apply, upd_same, upd_other, updO_some, ev_tmp, initE_at, insVc, ne_eq, not_false_eq_true, Nat.reduceEqDiff, Option.getD_some, List.map_cons, List.map_nil, List.getElem?_cons_zero, List.getElem?_cons_succ, Pt.val, Pt.cells, num']
  refine str_c queue w0 _ ?_
  intro w1 hm1
  simp only [vcOps_cons, goL_apply, upd_same, upd_other, updO_some, ev_tmp, initE_at, insVc, ne_eq, not_false_eq_true, Nat.reduceEqDiff, Option.getD_some, List.map_cons, List.map_nil, List.getElem?_cons_zero, List.getElem?_cons_succ, Pt.val, Pt.cells, str]
  refine num_c n w1 _ ?_
  intro w2 hm2
  simp only [vcOps_cons, goL_apply, upd_same, upd_other, updO_some, ev_tmp, ev_const, insVc, fillL, buildSK, Value.cells, ne_eq, not_false_eq_true, Nat.reduceEqDiff, Nat.reduceAdd, Nat.reduceLeDiff, List.map_cons, List.map_nil, List.size_toArray, List.length_cons, List.length_nil, List.zipIdx_cons, List.zipIdx_nil, List.foldl_cons, List.foldl_nil, List.setIfInBounds_toArray, List.set_cons_zero, List.set_cons_succ, List.toList_toArray, and_self, if_true, Nat.zero_add, Nat.add_zero, Pt.val, Pt.cells, num']
  have hm3 := ((hm0.trans hm1).trans hm2).alloc (.cells #[.bool false, .int .u64 at_, .string e0, .bool true, .int .u64 0, .string queue, .bool false, .int .u64 n, .string e0] 118)
  refine key_c ⟨#[101]⟩ [num' at_, str queue, num' n] _ m _ _ (hg.mod hm3 id) (.inr (pts_lit w2 [num' at_, str queue, num' n] _ rfl)) (by simp) (by decide) ?_ ?_
  · intro p hp
    rcases List.mem_cons.1 hp with rfl | hp
    · exact ⟨ha, by simp [num', e0, ByteArray.size]⟩
    rcases List.mem_cons.1 hp with rfl | hp
    · exact ⟨by simp [str], hs⟩
    · rcases List.mem_cons.1 hp with rfl | hp
      · exact ⟨hn, by simp [num', e0, ByteArray.size]⟩
      · cases hp
  intro w4 hm4
  simp only [vc_ret, vcOps_nil, vcOps_cons, goL_apply, thenQ_normal, upd_same, upd_other, updO_some, ev_tmp, endQ_ret, endK, resK, packed, insVc, loadV_some, extK, ne_eq, not_false_eq_true, Nat.reduceEqDiff, List.getElem?_cons_zero, List.getElem?_cons_succ, List.getElem?_toArray, List.nil_append, List.cons_append]
  exact h w4 (hm3.trans hm4)

end Go.Oct

namespace Go.Oct
open Go Go.Vc Go.VrA Go.VrB
set_option maxRecDepth 100000

/-! ### record.Messages -/

structure Ms where
  queue : ByteArray
  id : Nat
  tries : Nat
  expiry : Nat
  body : ByteArray
def Ms.cells (q : Ms) : List Value := [.string q.queue, .int .u64 q.id, .int .u32 q.tries, .int .u64 q.expiry, .string q.body]
def Ms.val (q : Ms) : Value := .agg q.cells.toArray
def ms0 : Ms := ⟨e0, 0, 0, 0, e0⟩
def Ms.good (q : Ms) : Prop := q.tries < 2 ^ 32 ∧ q.expiry < 2 ^ 64 ∧ q.body.size < 2 ^ 60
def mput (q : Ms) : ByteArray := big q.tries 4 ++ big q.expiry 8 ++ textB q.body
def mget (queue : ByteArray) (id : Nat) (r : Rd) : Ms × Rd :=
  let a := number r 4
  let b := number a.2 8
  let d := text b.2 32768
  (⟨queue, id, a.1 % 2 ^ 32, b.1, d.1⟩, d.2)
def mread (queue : ByteArray) (id : Nat) (s : ByteArray) : Ms × Int :=
  let x := mget queue id (ver (s, 0))
  if ende x.2 ≠ 0 then (ms0, ende x.2) else (x.1, 0)
def mbytes (q : Ms) : ByteArray := big 1 1 ++ mput q
abbrev zms : Array Value := #[.string ⟨#[]⟩, .int .u64 0, .int .u32 0, .int .u64 0, .string ⟨#[]⟩]

theorem mput_c (q : Ms) (w : World) (K : Value → World → Prop) (hq : q.good) (h : ∀ w', Mod (fun _ => False) w w' → K (.string (mput q)) w') :
    Ok Proofs.Tryz.prog 162 #[q.val] w K := by
  refine F162.enter (args := [q.val]) (by simp) ?_
  unfold c162 r162
  simp only [vc_seq, vc_ops, vcOps_nil, vcOps_cons, goL_apply, thenQ_normal, updO_some, ev_tmp, ev_const, initE_at, insVc, Value.cells, Option.getD_some, List.getElem?_cons_zero, Ms.val, Ms.cells]
  have hb0 : (w.alloc (.cells #[.string q.queue, .int .u64 q.id, .int .u32 q.tries, .int .u64 q.expiry, .string q.body] 49)).drew.heap[w.heap.size]? = some (.cells #[.string q.queue, .int .u64 q.id, .int .u32 q.tries, .int .u64 q.expiry, .string q.body] 49 (0, 0)) := get_alloc_new _ _
  have hm0 : Mod (fun _ => False) w (w.alloc (.cells #[.string q.queue, .int .u64 q.id, .int .u32 q.tries, .int .u64 q.expiry, .string q.body] 49)).drew := ((Mod.refl _ _).alloc _).drew
  refine draw_d (fun w' => w'.heap[w.heap.size]? = some (.cells #[.string q.queue, .int .u64 q.id, .int .u32 q.tries, .int .u64 q.expiry, .string q.body] 49 (0, 0))) (by kernel_rfl) (by kernel_rfl) (by kernel_rfl) (by kernel_rfl) hb0 ?_
  generalize (w.alloc (.cells #[.string q.queue, .int .u64 q.id, .int .u32 q.tries, .int .u64 q.expiry, .string q.body] 49)).drew = w1 at *
  simp only [vc_ret, thenQ_normal, upd_same, upd_other, updO_some, ev_tmp, endQ_ret, endK, resK, packed, insVc, sopK, sopV, faddrK, ne_eq, not_false_eq_true, Nat.reduceEqDiff, List.map_cons, List.map_nil, List.nil_append, if_true, if_false, Bool.false_eq_true, Nat.zero_add, pureI, vcD_nil, vcD_cons, stepD_pure, stepD_load, stepD_step, kindI, loadI]
  refine loadD1 (b := w.heap.size) (o := 2) (v := .int .u32 q.tries) rfl (fun w' hw' => ⟨_, _, _, hw', rfl⟩) ?_
  refine wfour_c q.tries w1 _ hq.1 ?_
  intro w2 hm2
  refine ⟨hm2.keep hb0 id, ?_⟩
  refine loadD1 (b := w.heap.size) (o := 3) (v := .int .u64 q.expiry) rfl (fun w' hw' => ⟨_, _, _, hw', rfl⟩) ?_
  refine weight_c q.expiry w2 _ hq.2.1 ?_
  intro w3 hm3
  refine ⟨hm3.keep (hm2.keep hb0 id) id, ?_⟩
  have x1 : ¬ (((big q.tries 4).size + (big q.expiry 8).size : Nat) : Int) > IntKind.i64.max := by simp only [big_size, imax]; omega
  simp only [loadV_some, if_false, x1]
  refine loadD1 (b := w.heap.size) (o := 4) (v := .string q.body) rfl (fun w' hw' => ⟨_, _, _, hw', rfl⟩) ?_
  refine wtext_c q.body w3 _ (by have := hq.2.2; omega) ?_
  intro w5 hm5
  refine ⟨hm5.keep (hm3.keep (hm2.keep hb0 id) id) id, ?_⟩
  have x3 : ¬ (((big q.tries 4 ++ big q.expiry 8).size + (textB q.body).size : Nat) : Int) > IntKind.i64.max := by
    have := hq.2.2
    simp only [ByteArray.size_append, big_size, textB_size, imax]; omega
  simp only [loadV_some, if_false, x3]
  exact h w5 (((hm0.trans hm2).trans hm3).trans hm5)

theorem mget_c (b nb ib : Nat) (queue : ByteArray) (n : Nat) (r : Rd) (w : World) (K : Value → World → Prop) (hb : IsRd w b r) (hn : w.heap[nb]? = some (.cells #[.string queue] 9 (0, 0))) (hi : w.heap[ib]? = some (.cells #[.int .u64 n] 31 (0, 0))) (hne : nb ≠ b) (hie : ib ≠ b) (hs : (r.1.size : Int) < 2 ^ 63)
    (h : ∀ w', Mod (fun k => k = b) w w' → IsRd w' b (mget queue n r).2 → K (mget queue n r).1.val w') :
    Ok Proofs.Tryz.prog 163 #[ptr b, ptr nb, ptr ib] w K := by
  refine F163.enter (args := [ptr b, ptr nb, ptr ib]) (by simp) ?_
  unfold c163 r163
  simp only [vc_seq, vc_ops, vcOps_nil, vcOps_cons, goL_apply, thenQ_normal, updO_some, insVc, Value.cells]
  have hm0 : Mod (fun k => k = b) w (w.alloc (.cells zms 49)).drew := ((Mod.refl _ _).alloc _).drew
  have hn0 := hm0.keep hn hne
  have hi0 := hm0.keep hi hie
  have hbl := lt_of_get hb
  have hb0 : IsRd (w.alloc (.cells zms 49)).drew b r := by
    unfold IsRd; rw [get_drew, get_alloc_old _ _ _ hbl]; exact hb
  have hr0 : (w.alloc (.cells zms 49)).drew.heap[w.heap.size]? = some (.cells zms 49 (0, 0)) := get_alloc_new _ _
  refine draw_d (fun w' => w'.heap[nb]? = some (.cells #[.string queue] 9 (0, 0)) ∧ w'.heap[ib]? = some (.cells #[.int .u64 n] 31 (0, 0))) (by kernel_rfl) (by kernel_rfl) (by kernel_rfl) (by kernel_rfl) ⟨hn0, hi0⟩ ?_
  generalize (w.alloc (.cells zms 49)).drew = w1 at *
  have hne' : w.heap.size ≠ b := by omega
  have hnn : w.heap.size ≠ nb := by have := lt_of_get hn; omega
  have hni : w.heap.size ≠ ib := by have := lt_of_get hi; omega
  simp only [vc_ret, thenQ_normal, upd_same, upd_other, updO_some, updO_none, ev_tmp, ev_const, endQ_ret, endK, resK, resN, packed, initE_at, insVc, storeNK, buildK, fillL, Value.cells, ne_eq, not_false_eq_true, Nat.reduceEqDiff, Nat.reduceAdd, Nat.reduceLeDiff, reduceCtorEq, Option.getD_some, List.map_cons, List.map_nil, List.getElem?_cons_zero, List.size_toArray, List.length_cons, List.length_nil, List.nil_append, and_true, if_true, if_false, Bool.false_eq_true, Nat.zero_add, pureI, vcD_nil, vcD_cons, stepD_pure, stepD_load, stepD_step, kindI, loadI]
  refine loadD1 (b := nb) (o := 0) (v := .string queue) rfl (fun w' hw' => ⟨_, _, _, hw'.1, rfl⟩) ?_
  refine loadD1 (b := ib) (o := 0) (v := .int .u64 n) rfl (fun w' hw' => ⟨_, _, _, hw'.2, rfl⟩) ?_
  refine four_c b r w1 _ hb0 hs ?_
  intro w2 hm2 hb2
  refine ⟨⟨hm2.keep hn0 hne, hm2.keep hi0 hie⟩, ?_⟩
  simp only [Nat.reduceAdd, Nat.reduceLeDiff, List.size_toArray, List.length_cons, List.length_nil, List.zipIdx_cons, List.zipIdx_nil, List.foldl_cons, List.foldl_nil, List.setIfInBounds_toArray, List.set_cons_zero, List.set_cons_succ, and_true, and_self, if_true, Nat.zero_add, Nat.add_zero]
  refine eight_c b _ w2 _ hb2 (by have := number_size r 4; omega) ?_
  intro w3 hm3 hb3
  have hn3 := hm3.keep (hm2.keep hn0 hne) hne
  have hi3 := hm3.keep (hm2.keep hi0 hie) hie
  refine ⟨⟨hn3, hi3⟩, ?_⟩
  simp only [Nat.reduceAdd, Nat.reduceLeDiff, List.size_toArray, List.length_cons, List.length_nil, List.zipIdx_cons, List.zipIdx_nil, List.foldl_cons, List.foldl_nil, List.setIfInBounds_toArray, List.set_cons_zero, List.set_cons_succ, and_true, if_true, Nat.zero_add, Nat.add_zero]
  refine text_c b _ 32768 w3 _ hb3 (by have := number_size r 4; have := number_size (number r 4).2 8; omega) (by omega) ?_
  intro w5 hm5 hb5
  refine ⟨⟨hm5.keep hn3 hne, hm5.keep hi3 hie⟩, ?_⟩
  have hr5 := hm5.keep (hm3.keep (hm2.keep hr0 hne') hne') hne'
  have hl5 := lt_of_get hr5
  simp only [resNO_cells, storeNO_cells, setMany, isPlain, Nat.reduceAdd, Nat.reduceLeDiff, List.size_toArray, List.length_cons, List.length_nil, List.zipIdx_cons, List.zipIdx_nil, List.foldl_cons, List.foldl_nil, List.setIfInBounds_toArray, List.set_cons_zero, List.set_cons_succ, true_and, and_self, if_true, Nat.zero_add, Nat.add_zero, Bool.and_true, List.extract_toArray, List.extract_eq_take_drop, List.drop_zero, List.take_zero, List.take_succ_cons, Nat.sub_zero, List.all_toArray', List.all_cons, List.all_nil, get_set_same, hr5, hl5]
  refine ⟨⟨by rw [get_set_other _ _ _ _ (Ne.symm hnn)]; exact hm5.keep hn3 hne, by rw [get_set_other _ _ _ _ (Ne.symm hni)]; exact hm5.keep hi3 hie⟩, ?_⟩
  have hx : (mget queue n r).1.val = .agg #[.string queue, .int .u64 n, .int .u32 ((number r 4).1 % 2 ^ 32 : Nat), .int .u64 ((number (number r 4).2 8).1 : Nat), .string (text (number (number r 4).2 8).2 32768).1] := rfl
  rw [hx] at h
  refine h _ ?_ ?_
  · exact ((((hm0.trans hm2).trans hm3).trans hm5)).set (.inl (Nat.le_refl _))
  · unfold IsRd
    rw [get_set_other _ _ _ _ (Ne.symm hne')]
    exact hb5

end Go.Oct

namespace Go.Oct
open Go Go.Vc Go.VrA Go.VrB
set_option maxRecDepth 100000

/-- record.Messages of a queue and a number, in memory. -/
def IsMs (w : World) (lo : Nat) (v : Value) (queue : ByteArray) (n : Nat) : Prop :=
  ∃ b1 b2 b3 b4, v = .agg #[.func (.func 202) #[] #[ptr b1], .func (.func 203) #[] #[ptr b2]] ∧ lo ≤ b1 ∧ lo ≤ b2 ∧ lo ≤ b3 ∧ lo ≤ b4 ∧
    w.heap[b1]? = some (.cells #[.func (.func 162) #[] #[]] 189 (0, 0)) ∧
    w.heap[b2]? = some (.cells #[.func (.func 163) #[] #[ptr b3, ptr b4]] 190 (0, 0)) ∧
    w.heap[b3]? = some (.cells #[.string queue] 9 (0, 0)) ∧ w.heap[b4]? = some (.cells #[.int .u64 n] 31 (0, 0))

theorem messages_c (queue : ByteArray) (n : Nat) (w : World) (K : Value → World → Prop) (h : ∀ w' v, Mod (fun _ => False) w w' → IsMs w' w.heap.size v queue n → K v w') :
    Ok Proofs.Tryz.prog 101 #[.string queue, .int .u64 n] w K := by
  refine F101.enter (args := [.string queue, .int .u64 n]) (by simp) ?_
  unfold c101 r101
  simp only [vc_seq, vc_ops, vcOps_nil, vcOps_cons, goL_apply, thenQ_normal, upd_same, upd_other, updO_some, ev_tmp, ev_func, initE_at, insVc, Value.cells, ne_eq, not_false_eq_true, Nat.reduceEqDiff, Option.getD_some, List.map_cons, List.map_nil, List.getElem?_cons_zero, List.getElem?_cons_succ, size_alloc]
  refine F161.enter (args := [_, _]) (by simp) ?_
  unfold c161 r161
  simp only [vc_seq, vc_ret, vc_ops, vcOps_nil, vcOps_cons, goL_apply, thenQ_normal, upd_same, upd_other, updO_some, updO_none, ev_tmp, endQ_ret, endK, resK, resN, resNO_cells, packed, initE_at, insVc, storeNK, storeNO_cells, setMany, buildK, fillL, isPlain, Value.cells, ne_eq, not_false_eq_true, Nat.reduceEqDiff, Nat.reduceAdd, Nat.reduceLT, Nat.reduceLeDiff, reduceCtorEq, Option.getD_some, List.map_cons, List.map_nil, List.getElem?_cons_zero, List.getElem?_cons_succ, List.size_toArray, List.length_cons, List.length_nil, List.zipIdx_cons, List.zipIdx_nil, List.foldl_cons, List.foldl_nil, List.setIfInBounds_toArray, List.set_cons_zero, List.set_cons_succ, List.nil_append, List.toList_toArray, true_and, and_true, and_self, if_true, if_false, Nat.zero_add, Nat.add_zero, Bool.and_true, List.extract_toArray, List.extract_eq_take_drop, List.drop_zero, List.take_zero, List.take_succ_cons, Nat.sub_zero, List.all_toArray', List.all_cons, List.all_nil, size_set, size_alloc, get_set_same, Nat.lt_add_one, get_alloc, get_set, size_alloc, size_set, Nat.add_assoc, Nat.reduceAdd, Nat.add_left_cancel_iff, Nat.add_eq_left, Nat.reduceEqDiff, Nat.add_lt_add_iff_left, Nat.reduceLT]
  refine h _ _ ?_ ⟨w.heap.size + 3, w.heap.size + 4, w.heap.size, w.heap.size + 1, rfl, by omega, by omega, by omega, by omega, ?_, ?_, ?_, ?_⟩
  · exact (((((((Mod.refl _ _).alloc _).alloc _).alloc _).alloc _).alloc _).alloc _).set (.inl (by omega)) |>.set (.inl (by omega))
  · simp only [Nat.reduceEqDiff, Nat.reduceAdd, Nat.reduceLT, reduceCtorEq, and_true, if_true, if_false, size_set, size_alloc, Nat.lt_add_one, get_alloc, get_set, size_alloc, size_set, Nat.add_assoc, Nat.reduceAdd, Nat.add_left_cancel_iff, Nat.add_eq_left, Nat.reduceEqDiff, Nat.add_lt_add_iff_left, Nat.reduceLT]
  · simp only [Nat.reduceEqDiff, Nat.reduceAdd, Nat.reduceLT, reduceCtorEq, and_true, if_true, if_false, size_set, size_alloc, Nat.lt_add_one, get_alloc, get_set, size_alloc, size_set, Nat.add_assoc, Nat.reduceAdd, Nat.add_left_cancel_iff, Nat.add_eq_left, Nat.reduceEqDiff, Nat.add_lt_add_iff_left, Nat.reduceLT]
  · simp only [Nat.reduceAdd, Nat.reduceLT, reduceCtorEq, and_true, if_true, if_false, size_set, size_alloc, Nat.lt_add_one, get_alloc, get_set, size_alloc, size_set, Nat.add_assoc, Nat.reduceAdd, Nat.left_eq_add, Nat.add_lt_add_iff_left, Nat.reduceLT, Nat.one_ne_zero]
  · simp only [Nat.reduceEqDiff, Nat.reduceAdd, Nat.reduceLT, and_true, if_true, if_false, size_set, size_alloc, Nat.lt_add_one, get_alloc, get_set, size_alloc, size_set, Nat.add_assoc, Nat.reduceAdd, Nat.add_left_cancel_iff, Nat.add_eq_left, Nat.reduceEqDiff, Nat.add_lt_add_iff_left, Nat.reduceLT, Nat.one_ne_zero]

theorem mbytesf_c (q : Ms) (bb : Nat) (w : World) (K : Value → World → Prop) (hq : q.good) (hb : w.heap[bb]? = some (.cells #[.func (.func 162) #[] #[]] 189 (0, 0)))
    (h : ∀ w', Mod (fun _ => False) w w' → K (.string (mbytes q)) w') :
    Ok Proofs.Tryz.prog 202 #[q.val, ptr bb] w K := by
  refine F202.enter (args := [q.val, ptr bb]) (by simp) ?_
  unfold c202 r202
  simp only [vc_seq, vc_ops, vcOps_nil, vcOps_cons, goL_apply, thenQ_normal, updO_some, ev_tmp, ev_const, initE_at, insVc, Value.cells, Option.getD_some, List.getElem?_cons_zero, Ms.val, Ms.cells]
  have hb0 : (w.alloc (.cells #[.string q.queue, .int .u64 q.id, .int .u32 q.tries, .int .u64 q.expiry, .string q.body] 49)).drew.heap[w.heap.size]? = some (.cells #[.string q.queue, .int .u64 q.id, .int .u32 q.tries, .int .u64 q.expiry, .string q.body] 49 (0, 0)) := get_alloc_new _ _
  have hm0 : Mod (fun _ => False) w (w.alloc (.cells #[.string q.queue, .int .u64 q.id, .int .u32 q.tries, .int .u64 q.expiry, .string q.body] 49)).drew := ((Mod.refl _ _).alloc _).drew
  have hbb := hm0.keep hb id
  refine draw_d (fun w' => w'.heap[w.heap.size]? = some (.cells #[.string q.queue, .int .u64 q.id, .int .u32 q.tries, .int .u64 q.expiry, .string q.body] 49 (0, 0)) ∧ w'.heap[bb]? = some (.cells #[.func (.func 162) #[] #[]] 189 (0, 0))) (by kernel_rfl) (by kernel_rfl) (by kernel_rfl) (by kernel_rfl) ⟨hb0, hbb⟩ ?_
  generalize (w.alloc (.cells #[.string q.queue, .int .u64 q.id, .int .u32 q.tries, .int .u64 q.expiry, .string q.body] 49)).drew = w1 at *
  simp only [vc_ret, thenQ_normal, upd_same, upd_other, updO_some, ev_tmp, ev_const, endQ_ret, endK, resK, packed, insVc, sopK, sopV, callvK, ne_eq, not_false_eq_true, Nat.reduceEqDiff, List.map_cons, List.map_nil, List.nil_append, if_true, if_false, Bool.false_eq_true, pureI, vcD_nil, vcD_cons, stepD_pure, stepD_load, stepD_step, kindI, loadI]
  refine wone_c 1 w1 _ (by decide) ?_
  intro w2 hm2
  refine ⟨⟨hm2.keep hb0 id, hm2.keep hbb id⟩, ?_⟩
  refine loadD1 (b := bb) (o := 0) (v := .func (.func 162) #[] #[]) rfl (fun w' hw' => ⟨_, _, _, hw'.2, rfl⟩) ?_
  refine loadDN (b := w.heap.size) (o := 0) (v := q.val) rfl (fun w' hw' => ⟨_, _, _, hw'.1, by simp, rfl⟩) ?_
  simp only [List.nil_append, List.append_nil]
  refine mput_c q w2 _ hq ?_
  intro w3 hm3
  refine ⟨⟨hm3.keep (hm2.keep hb0 id) id, hm3.keep (hm2.keep hbb id) id⟩, ?_⟩
  have x1 : ¬ (((big 1 1).size + (mput q).size : Nat) : Int) > IntKind.i64.max := by
    have := hq.2.2
    simp only [mput, ByteArray.size_append, big_size, textB_size, imax]; omega
  simp only [loadV_some, if_false, x1]
  exact h w3 ((hm0.trans hm2).trans hm3)

theorem mgetf_c (b gb nb ib : Nat) (queue : ByteArray) (n : Nat) (r : Rd) (w : World) (K : Value → World → Prop) (hb : IsRd w b r) (hg : w.heap[gb]? = some (.cells #[.func (.func 163) #[] #[ptr nb, ptr ib]] 190 (0, 0)))
    (hn : w.heap[nb]? = some (.cells #[.string queue] 9 (0, 0))) (hi : w.heap[ib]? = some (.cells #[.int .u64 n] 31 (0, 0))) (hne : nb ≠ b) (hie : ib ≠ b) (hge : gb ≠ b) (hs : (r.1.size : Int) < 2 ^ 63)
    (h : ∀ w', Mod (fun k => k = b) w w' → IsRd w' b (mget queue n (ver r)).2 → K (mget queue n (ver r)).1.val w') :
    Ok Proofs.Tryz.prog 203 #[ptr b, ptr gb] w K := by
  refine F203.enter (args := [ptr b, ptr gb]) (by simp) ?_
  unfold c203 r203
  simp only [vc_seq, vc_ops, vcOps_nil, vcOps_cons, goL_apply, thenQ_normal, upd_same, upd_other, updO_some, ev_tmp, initE_at, insVc, Value.cells, ne_eq, not_false_eq_true, reduceCtorEq, Option.getD_some, List.map_cons, List.map_nil, List.getElem?_cons_zero]
  have hm0 : Mod (fun k => k = b) w (w.alloc (.cells zms 49)) := (Mod.refl _ _).alloc _
  have hn0 := hm0.keep hn hne
  have hi0 := hm0.keep hi hie
  have hg0 := hm0.keep hg hge
  have hbl := lt_of_get hb
  have hb0 : IsRd (w.alloc (.cells zms 49)) b r := by
    unfold IsRd; rw [get_alloc_old _ _ _ hbl]; exact hb
  have hr0 : (w.alloc (.cells zms 49)).heap[w.heap.size]? = some (.cells zms 49 (0, 0)) := get_alloc_new _ _
  generalize (w.alloc (.cells zms 49)) = w1 at *
  have hne' : w.heap.size ≠ b := by omega
  refine one_c b r w1 _ hb0 hs ?_
  intro w2 hm2 hb2
  simp only [vc_cond, vcOps_nil, vcOps_cons, goL_apply, thenQ_normal, upd_same, updO_some, ev_tmp, ev_const, insVc, loadV_some, iopK, iopV, reduceCtorEq, true_and, or_false]
  have fin : ∀ w3, Mod (fun k => k = b) w2 w3 → IsRd w3 b (ver r) → ∀ G : Value → World → Prop, (∀ w4, Mod (fun k => k = b) w3 w4 → IsRd w4 b (mget queue n (ver r)).2 → G (mget queue n (ver r)).1.val w4) → Ok Proofs.Tryz.prog 163 #[ptr b, ptr nb, ptr ib] w3 G := by
    intro w3 hm3 hb3 G hG
    exact mget_c b nb ib queue n (ver r) w3 G hb3 (hm3.keep (hm2.keep hn0 hne) hne) (hm3.keep (hm2.keep hi0 hie) hie) hne hie (by have := ver_size r; omega) hG
  refine condP_split ?_ ?_
  · intro hc
    simp only [vc_ops, vcOps_cons, goL_apply, upd_same, upd_other, updO_some, ev_tmp, ev_const, initE_at, insVc, ne_eq, not_false_eq_true, reduceCtorEq, Option.getD_some, List.map_cons, List.map_nil, List.getElem?_cons_zero]
    refine fail_c b _ 4 w2 _ hb2 ?_
    intro w3 v hm3 hb3
    have hv : ver r = fail (number r 1).2 4 := by
      unfold ver; rw [if_pos]; simp at hc; omega
    simp only [vc_seq, vc_ops, vcOps_nil, vcOps_cons, goL_apply, thenQ_normal, upd_same, upd_other, updO_some, ev_tmp, initE_at, insVc, load1K, loadO_cells, loadV_some, callvK, ne_eq, not_false_eq_true, Nat.reduceEqDiff, reduceCtorEq, Option.getD_some, List.map_cons, List.map_nil, List.getElem?_cons_zero, List.getElem?_cons_succ, List.getElem?_toArray, List.nil_append, List.cons_append, hm3.keep (hm2.keep hg0 hge) hge]
    refine fin w3 hm3 (hv ▸ hb3) _ ?_
    intro w4 hm4 hb4
    have hr4 := hm4.keep (hm3.keep (hm2.keep hr0 hne') hne') hne'
    simp only [vc_ret, vcOps_nil, vcOps_cons, goL_apply, thenQ_normal, upd_same, upd_other, updO_some, updO_none, ev_tmp, endQ_ret, endK, resK, resN, resNO_cells, packed, insVc, storeNK, storeNO_cells, setMany, isPlain, ne_eq, not_false_eq_true, Nat.reduceEqDiff, Nat.reduceAdd, Nat.reduceLeDiff, List.size_toArray, List.length_cons, List.length_nil, List.setIfInBounds_toArray, List.set_cons_zero, List.set_cons_succ, List.nil_append, true_and, and_self, Nat.zero_add, Bool.and_true, List.extract_toArray, List.extract_eq_take_drop, List.drop_zero, List.take_zero, List.take_succ_cons, Nat.sub_zero, List.all_toArray', List.all_cons, List.all_nil, get_set_same, hr4, lt_of_get hr4, Ms.val, Ms.cells]
    refine h _ ((((hm0.trans hm2).trans hm3).trans hm4).set (.inl (Nat.le_refl _))) ?_
    unfold IsRd
    rw [get_set_other _ _ _ _ (Ne.symm hne')]
    exact hb4
  · intro hc
    simp only [vc_skip, vc_seq, vc_ops, vcOps_cons, thenQ_normal, upd_other, ev_tmp, initE_at, insVc, load1K, ne_eq, not_false_eq_true, Nat.reduceEqDiff, Option.getD_some, List.getElem?_cons_zero, List.getElem?_cons_succ]
    have hv : ver r = (number r 1).2 := by
      unfold ver; rw [if_neg]; simp at hc; omega
    simp only [vcOps_cons, goL_apply, upd_same, upd_other, updO_some, ev_tmp, initE_at, insVc, loadO_cells, loadV_some, callvK, ne_eq, not_false_eq_true, Nat.reduceEqDiff, reduceCtorEq, Option.getD_some, List.map_cons, List.map_nil, List.getElem?_cons_zero, List.getElem?_toArray, List.nil_append, List.cons_append, hm2.keep hg0 hge]
    refine fin w2 (Mod.refl _ _) (hv ▸ hb2) _ ?_
    intro w4 hm4 hb4
    have hr4 := hm4.keep (hm2.keep hr0 hne') hne'
    simp only [vc_ret, vcOps_nil, vcOps_cons, goL_apply, thenQ_normal, upd_same, upd_other, updO_some, updO_none, ev_tmp, endQ_ret, endK, resK, resN, resNO_cells, packed, insVc, storeNK, storeNO_cells, setMany, isPlain, ne_eq, not_false_eq_true, Nat.reduceEqDiff, Nat.reduceAdd, Nat.reduceLeDiff, List.size_toArray, List.length_cons, List.length_nil, List.setIfInBounds_toArray, List.set_cons_zero, List.set_cons_succ, List.nil_append, true_and, and_self, Nat.zero_add, Bool.and_true, List.extract_toArray, List.extract_eq_take_drop, List.drop_zero, List.take_zero, List.take_succ_cons, Nat.sub_zero, List.all_toArray', List.all_cons, List.all_nil, get_set_same, hr4, lt_of_get hr4, Ms.val, Ms.cells]
    refine h _ (((hm0.trans hm2).trans hm4).set (.inl (Nat.le_refl _))) ?_
    unfold IsRd
    rw [get_set_other _ _ _ _ (Ne.symm hne')]
    exact hb4

theorem mbytes_c (v : Value) (lo : Nat) (queue : ByteArray) (n : Nat) (q : Ms) (w : World) (K : Value → World → Prop) (hv : IsMs w lo v queue n) (hq : q.good)
    (h : ∀ w', Mod (fun _ => False) w w' → K (.string (mbytes q)) w') :
    Ok Proofs.Tryz.prog 136 #[v, q.val] w K := by
  obtain ⟨b1, b2, b3, b4, rfl, _, _, _, _, h1, h2, h3, h4⟩ := hv
  refine F136.enter (args := [_, q.val]) (by simp) ?_
  unfold c136 r136
  simp only [vc_skip, vc_seq, vc_cond, vc_ops, vcOps_nil, vcOps_cons, goL_apply, thenQ_normal, condP_false, upd_same, upd_other, updO_some, ev_tmp, ev_const, initE_at, insVc, load1K, loadO_cells, loadV_some, loadNK, loadNO_cells, nilOf, pnilK, faddrK, callvK, Value.cells, ne_eq, not_false_eq_true, Nat.reduceEqDiff, Nat.reduceAdd, Nat.reduceLeDiff, Bool.not_false, Option.getD_some, List.map_cons, List.map_nil, List.getElem?_cons_zero, List.getElem?_cons_succ, List.getElem?_toArray, List.size_toArray, List.length_cons, List.length_nil, List.nil_append, List.cons_append, true_and, if_true, if_false, Bool.false_eq_true, Nat.zero_add, Nat.add_zero, List.extract_toArray, List.extract_eq_take_drop, List.drop_zero, List.take_zero, List.take_succ_cons, Nat.sub_zero, size_alloc, get_alloc, size_alloc, Nat.reduceAdd, Nat.add_eq_left, Nat.left_eq_add, Nat.reduceEqDiff, Nat.one_ne_zero, Ms.val, Ms.cells]
  have hm0 : Mod (fun _ => False) w ((w.alloc (.cells #[.func (.func 202) #[] #[ptr b1], .func (.func 203) #[] #[ptr b2]] 192)).alloc (.cells #[.string q.queue, .int .u64 q.id, .int .u32 q.tries, .int .u64 q.expiry, .string q.body] 49)) := ((Mod.refl _ _).alloc _).alloc _
  refine mbytesf_c q b1 _ _ hq (hm0.keep h1 id) ?_
  intro w2 hm2
  simp only [vc_ret, vcOps_nil, vcOps_cons, goL_apply, thenQ_normal, upd_same, updO_some, ev_tmp, endQ_ret, endK, resK, packed, insVc, List.nil_append]
  exact h w2 (hm0.trans hm2)

theorem mread_c (v : Value) (lo : Nat) (queue : ByteArray) (n : Nat) (s : ByteArray) (w : World) (K : Value → World → Prop) (hv : IsMs w lo v queue n) (hs : s.size < 2 ^ 60)
    (h : ∀ w', Mod (fun _ => False) w w' → K (.tuple #[(mread queue n s).1.val, .int .i64 (mread queue n s).2]) w') :
    Ok Proofs.Tryz.prog 102 #[v, .string s] w K := by
  obtain ⟨b1, b2, b3, b4, rfl, _, _, _, _, h1, h2, h3, h4⟩ := hv
  refine F102.enter (args := [_, .string s]) (by simp) ?_
  unfold c102 r102
  simp only [vc_skip, vc_seq, vc_cond, vc_ops, vcOps_nil, vcOps_cons, goL_apply, thenQ_normal, condP_false, upd_same, upd_other, updO_some, ev_tmp, ev_const, initE_at, insVc, load1K, loadO_cells, loadV_some, nilOf, pnilK, faddrK, Value.cells, ne_eq, not_false_eq_true, Nat.reduceEqDiff, Nat.reduceAdd, reduceCtorEq, Bool.not_false, Option.getD_some, List.map_cons, List.map_nil, List.getElem?_cons_zero, List.getElem?_cons_succ, List.getElem?_toArray, if_true, if_false, Bool.false_eq_true, Nat.zero_add, size_alloc, get_alloc, size_alloc, Nat.add_assoc, Nat.reduceAdd, Nat.left_eq_add, Nat.reduceEqDiff, Nat.one_ne_zero]
  refine over_c s _ _ ?_
  simp only [vc_seq, vc_ops, vcOps_nil, vcOps_cons, goL_apply, thenQ_normal, upd_same, upd_other, updO_some, ev_tmp, insVc, load1K, loadO_cells, loadV_some, faddrK, callvK, ne_eq, not_false_eq_true, Nat.reduceEqDiff, Nat.reduceAdd, reduceCtorEq, List.map_cons, List.map_nil, List.getElem?_cons_zero, List.getElem?_cons_succ, List.getElem?_toArray, List.nil_append, List.cons_append, if_true, if_false, Nat.zero_add, size_alloc, get_alloc, size_alloc, Nat.add_assoc, Nat.reduceAdd, Nat.left_eq_add, Nat.reduceEqDiff, Nat.one_ne_zero]
  have l1 := lt_of_get h1
  have l2 := lt_of_get h2
  have l3 := lt_of_get h3
  have l4 := lt_of_get h4
  refine callK_gen ?_
  intro w1 hw1
  have hm0 : Mod (fun _ => False) w w1 := by rw [hw1]; exact ((((Mod.refl _ _).alloc _).alloc _).alloc _).alloc _
  have e1 : w1.heap[w.heap.size + 1]? = some (.cells zms 49 (0, 0)) := by rw [hw1]; simp only [Nat.reduceEqDiff, Nat.reduceAdd, if_true, if_false, size_alloc, get_alloc, size_alloc, Nat.add_assoc, Nat.reduceAdd, Nat.add_left_cancel_iff, Nat.add_eq_left, Nat.reduceEqDiff, Nat.one_ne_zero]
  have e2 : w1.heap[w.heap.size + 2]? = some (.cells zms 49 (0, 0)) := by rw [hw1]; simp only [Nat.reduceEqDiff, Nat.reduceAdd, reduceCtorEq, if_true, if_false, size_alloc, get_alloc, size_alloc, Nat.add_assoc, Nat.reduceAdd, Nat.add_left_cancel_iff, Nat.add_eq_left, Nat.reduceEqDiff]
  have e3 : IsRd w1 (w.heap.size + 3) (s, 0) := by unfold IsRd; rw [hw1]; simp only [Nat.reduceEqDiff, Nat.reduceAdd, reduceCtorEq, if_true, if_false, size_alloc, get_alloc, size_alloc, Nat.add_assoc, Nat.reduceAdd, Nat.add_left_cancel_iff, Nat.add_eq_left, Nat.reduceEqDiff]
  have hszx : w1.heap.size = w.heap.size + 4 := by rw [hw1]; simp only [Nat.reduceAdd, size_alloc, size_alloc, Nat.add_assoc, Nat.reduceAdd]
  clear hw1
  refine mgetf_c (w.heap.size + 3) b2 b3 b4 queue n (s, 0) w1 _ e3 (hm0.keep h2 id) (hm0.keep h3 id) (hm0.keep h4 id) (by omega) (by omega) (by omega) (by simpa using (by omega : (s.size : Int) < 2 ^ 63)) ?_
  intro w2 hm2 hb2
  have f1 := hm2.keep e1 (by omega)
  have f2 := hm2.keep e2 (by omega)
  have hm2' : Mod (fun _ => False) w w2 := hm0.then hm2 (fun i hi hk => by omega)
  have s2 := hm2.size
  have hr2 := lt_of_get hb2
  simp only [vc_seq, vc_ops, vcOps_nil, vcOps_cons, goL_apply, thenQ_normal, upd_same, upd_other, updO_some, updO_none, ev_tmp, insVc, storeNK, storeNO_cells, setMany, isPlain, Value.cells, ne_eq, not_false_eq_true, Nat.reduceEqDiff, Nat.reduceAdd, Nat.reduceLeDiff, List.map_cons, List.map_nil, List.size_toArray, List.length_cons, List.length_nil, List.setIfInBounds_toArray, List.set_cons_zero, List.set_cons_succ, true_and, and_self, Nat.zero_add, Bool.and_true, List.all_toArray', List.all_cons, List.all_nil, get_alloc_new, Ms.val, Ms.cells]
  refine callK_gen ?_
  intro w3 hw3
  have hm3 : Mod (fun _ => False) w2 w3 := by rw [hw3]; exact ((Mod.refl _ _).alloc _).set (.inl (Nat.le_refl _))
  have g0 : w3.heap[w2.heap.size]? = some (.cells (mget queue n (ver (s, 0))).1.cells.toArray 49 (0, 0)) := by rw [hw3]; simp only [size_alloc, get_set_same, Nat.lt_add_one, size_alloc, Ms.cells]
  clear hw3
  have g1 := hm3.keep f1 id
  have g2 := hm3.keep f2 id
  have gb : IsRd w3 (w.heap.size + 3) _ := hm3.keep hb2 id
  have hm3' := hm2'.trans hm3
  refine ende_c (w.heap.size + 3) _ w3 _ gb ?_
  simp only [vc_seq, vc_cond, vc_ops, vcOps_nil, vcOps_cons, goL_apply, thenQ_normal, upd_same, updO_some, ev_tmp, ev_const, insVc, loadV_some, iopK, iopV, reduceCtorEq, true_and, or_false]
  refine condP_split ?_ ?_
  · intro he
    have he' : ende (mget queue n (ver (s, 0))).2 ≠ 0 := by simpa using he
    have hq : mread queue n s = (ms0, ende (mget queue n (ver (s, 0))).2) := by unfold mread; simp only []; rw [if_pos he']
    rw [hq] at h
    simp only [vc_seq, vc_ret, vc_ops, vcOps_nil, vcOps_cons, goL_apply, thenQ_normal, thenQ_ret, upd_same, upd_other, updO_some, updO_none, ev_tmp, endQ_ret, endK, resK, resN, resNO_cells, packed, insVc, loadNK, loadNO_cells, storeNK, storeNO_cells, setMany, isPlain, ne_eq, not_false_eq_true, Nat.reduceEqDiff, Nat.reduceAdd, Nat.reduceLeDiff, List.size_toArray, List.length_cons, List.length_nil, List.setIfInBounds_toArray, List.set_cons_zero, List.set_cons_succ, List.nil_append, List.cons_append, true_and, and_self, Nat.zero_add, Bool.and_true, List.extract_toArray, List.extract_eq_take_drop, List.drop_zero, List.take_zero, List.take_succ_cons, Nat.sub_zero, List.all_toArray', List.all_cons, List.all_nil, g2, g1, get_set_same _ _ _ (lt_of_get g1)]
    exact h _ (hm3'.set (.inl (by omega)))
  · intro he
    have he' : ende (mget queue n (ver (s, 0))).2 = 0 := by simpa using he
    have hq : mread queue n s = ((mget queue n (ver (s, 0))).1, 0) := by unfold mread; simp only []; rw [if_neg (by simpa using he')]
    rw [hq] at h
    simp only [vc_skip, vc_seq, vc_ret, vc_ops, vcOps_nil, vcOps_cons, goL_apply, thenQ_normal, upd_same, upd_other, updO_some, updO_none, ev_tmp, ev_const, endQ_ret, endK, resK, resN, resNO_cells, packed, insVc, loadNK, loadNO_cells, storeNK, storeNO_cells, setMany, isPlain, ne_eq, not_false_eq_true, Nat.reduceEqDiff, Nat.reduceAdd, Nat.reduceLeDiff, List.size_toArray, List.length_cons, List.length_nil, List.setIfInBounds_toArray, List.set_cons_zero, List.set_cons_succ, List.nil_append, List.cons_append, true_and, and_self, Nat.zero_add, Bool.and_true, List.extract_toArray, List.extract_eq_take_drop, List.drop_zero, List.take_zero, List.take_succ_cons, Nat.sub_zero, List.all_toArray', List.all_cons, List.all_nil, g0, g1, Ms.cells, get_set_same _ _ _ (lt_of_get g1)]
    exact h _ (hm3'.set (.inl (by omega)))

end Go.Oct
