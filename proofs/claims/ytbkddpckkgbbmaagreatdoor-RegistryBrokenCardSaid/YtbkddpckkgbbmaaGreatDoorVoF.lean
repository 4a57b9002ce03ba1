import Derived.Test.YtbkddpckkgbbmaaGreatDoorVoE
namespace Go.Oct
open Go Go.Vc Go.VrA
set_option maxRecDepth 100000

/-! ### records -/

structure Qu where
  name : ByteArray
  most : Nat
  ttl : Nat
  tries : Nat
  dead : ByteArray
def Qu.cells (q : Qu) : List Value := [.string q.name, .int .u32 q.most, .int .u64 q.ttl, .int .u32 q.tries, .string q.dead]
def Qu.val (q : Qu) : Value := .agg q.cells.toArray
def q0 : Qu := ⟨e0, 0, 0, 0, e0⟩
def Qu.good (q : Qu) : Prop := q.most < 2 ^ 32 ∧ q.ttl < 2 ^ 64 ∧ q.tries < 2 ^ 32 ∧ q.dead.size < 2 ^ 60
def qput (q : Qu) : ByteArray := big q.most 4 ++ big q.ttl 8 ++ big q.tries 4 ++ textB q.dead
def qget (name : ByteArray) (r : Rd) : Qu × Rd :=
  let a := number r 4
  let b := number a.2 8
  let c := number b.2 4
  let d := text c.2 32
  (⟨name, a.1 % 2 ^ 32, b.1, c.1 % 2 ^ 32, d.1⟩, d.2)
def ver (r : Rd) : Rd := if (number r 1).1 % 256 ≠ 1 then fail (number r 1).2 4 else (number r 1).2
def qread (name s : ByteArray) : Qu × Int :=
  let x := qget name (ver (s, 0))
  if ende x.2 ≠ 0 then (q0, ende x.2) else (x.1, 0)
def qbytes (q : Qu) : ByteArray := big 1 1 ++ qput q

theorem number_size (r : Rd) (n : Int) : (number r n).2.1.size ≤ r.1.size := take_size r n
theorem fail_size (r : Rd) (e : Int) : (fail r e).1.size = r.1.size := by unfold fail; split <;> rfl
theorem ver_size (r : Rd) : (ver r).1.size ≤ r.1.size := by
  unfold ver
  split
  · rw [fail_size]; exact number_size r 1
  · exact number_size r 1
theorem textB_size (s : ByteArray) : (textB s).size = 4 + s.size := by simp [textB, big_size, ByteArray.size_append]

theorem imax : IntKind.i64.max = 9223372036854775807 := rfl

theorem qput_c (q : Qu) (w : World) (K : Value → World → Prop) (hq : q.good) (h : ∀ w', Mod (fun _ => False) w w' → K (.string (qput q)) w') :
    Ok Proofs.Tryz.prog 122 #[q.val] w K := by
  refine F122.enter (args := [q.val]) (by simp) ?_
  unfold c122 r122
  simp only [vc_seq, vc_ops, vcOps_nil, vcOps_cons, goL_apply, thenQ_normal, updO_some, ev_tmp, ev_const, initE_at, insVc, Value.cells, Option.getD_some, List.getElem?_cons_zero, Qu.val, Qu.cells]
  have hb0 : (w.alloc (.cells #[.string q.name, .int .u32 q.most, .int .u64 q.ttl, .int .u32 q.tries, .string q.dead] 33)).drew.heap[w.heap.size]? = some (.cells #[.string q.name, .int .u32 q.most, .int .u64 q.ttl, .int .u32 q.tries, .string q.dead] 33 (0, 0)) := get_alloc_new _ _
  have hm0 : Mod (fun _ => False) w (w.alloc (.cells #[.string q.name, .int .u32 q.most, .int .u64 q.ttl, .int .u32 q.tries, .string q.dead] 33)).drew := ((Mod.refl _ _).alloc _).drew
  refine draw_d (fun w' => w'.heap[w.heap.size]? = some (.cells #[.string q.name, .int .u32 q.most, .int .u64 q.ttl, .int .u32 q.tries, .string q.dead] 33 (0, 0))) (by kernel_rfl) (by kernel_rfl) (by kernel_rfl) (by kernel_rfl) hb0 ?_
  generalize (w.alloc (.cells #[.string q.name, .int .u32 q.most, .int .u64 q.ttl, .int .u32 q.tries, .string q.dead] 33)).drew = w1 at *
  simp only [vc_ret, thenQ_normal, upd_same, upd_other, updO_some, ev_tmp, endQ_ret, endK, resK, packed, insVc, sopK, sopV, faddrK, ne_eq, not_false_eq_true, Nat.reduceEqDiff, List.map_cons, List.map_nil, List.nil_append, if_true, if_false, Bool.false_eq_true, Nat.zero_add, pureI, vcD_nil, vcD_cons, stepD_pure, stepD_load, stepD_step, kindI, loadI]
  refine loadD1 (b := w.heap.size) (o := 1) (v := .int .u32 q.most) rfl (fun w' hw' => ⟨_, _, _, hw', rfl⟩) ?_
  refine wfour_c q.most w1 _ hq.1 ?_
  intro w2 hm2
  refine ⟨hm2.keep hb0 id, ?_⟩
  refine loadD1 (b := w.heap.size) (o := 2) (v := .int .u64 q.ttl) rfl (fun w' hw' => ⟨_, _, _, hw', rfl⟩) ?_
  refine weight_c q.ttl w2 _ hq.2.1 ?_
  intro w3 hm3
  refine ⟨hm3.keep (hm2.keep hb0 id) id, ?_⟩
  have x1 : ¬ (((big q.most 4).size + (big q.ttl 8).size : Nat) : Int) > IntKind.i64.max := by simp only [big_size, imax]; omega
  simp only [loadV_some, if_false, x1]
  refine loadD1 (b := w.heap.size) (o := 3) (v := .int .u32 q.tries) rfl (fun w' hw' => ⟨_, _, _, hw', rfl⟩) ?_
  refine wfour_c q.tries w3 _ hq.2.2.1 ?_
  intro w4 hm4
  refine ⟨hm4.keep (hm3.keep (hm2.keep hb0 id) id) id, ?_⟩
  have x2 : ¬ (((big q.most 4 ++ big q.ttl 8).size + (big q.tries 4).size : Nat) : Int) > IntKind.i64.max := by simp only [ByteArray.size_append, big_size, imax]; omega
  simp only [loadV_some, if_false, x2]
  refine loadD1 (b := w.heap.size) (o := 4) (v := .string q.dead) rfl (fun w' hw' => ⟨_, _, _, hw', rfl⟩) ?_
  refine wtext_c q.dead w4 _ (by have := hq.2.2.2; omega) ?_
  intro w5 hm5
  refine ⟨hm5.keep (hm4.keep (hm3.keep (hm2.keep hb0 id) id) id) id, ?_⟩
  have x3 : ¬ (((big q.most 4 ++ big q.ttl 8 ++ big q.tries 4).size + (textB q.dead).size : Nat) : Int) > IntKind.i64.max := by
    have := hq.2.2.2
    simp only [ByteArray.size_append, big_size, textB_size, imax]; omega
  simp only [loadV_some, if_false, x3]
  exact h w5 (((((hm0.trans hm2).trans hm3).trans hm4).trans hm5))

end Go.Oct
