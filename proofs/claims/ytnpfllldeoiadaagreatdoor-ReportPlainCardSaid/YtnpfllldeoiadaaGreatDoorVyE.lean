import Derived.Test.YtnpfllldeoiadaaGreatDoorVyC
import Derived.Test.YtnpfllldeoiadaaGreatDoorVpK
set_option linter.unusedSimpArgs false
set_option linter.unusedVariables false
set_option linter.unusedSectionVars false
set_option linter.unnecessarySimpa false
namespace Go.Oct
open Go Go.Vc Go.VrA Go.VrB Go.VrD
set_option maxRecDepth 100000

/-! ### rows of numbers -/

def sC (ls : List (List UInt8)) : List Value := ls.map fun l => Value.string ⟨l.toArray⟩
theorem sC_len (ls : List (List UInt8)) : (sC ls).length = ls.length := by simp [sC]
theorem append_s (B : Nat) (v : Value) (ls : List (List UInt8)) (x : List UInt8) (w : World) (hown : w.ownsRow B 9 1 v ls.length (sC ls)) (hB : B ≤ w.heap.size) (hl : ls.length < 2 ^ 39) (ty : TypeId) :
    ∃ v' w', (Builtin.append_ #[57, 57] ty #[v, .slice (some ⟨w.heap.size, 0, none⟩) 1 1]).run Proofs.Tryz.prog (w.alloc (.cells #[.string ⟨x.toArray⟩] 9)) = .ok v' w' ∧
      w'.ownsRow B 9 1 v' (ls ++ [x]).length (sC (ls ++ [x])) ∧ Mod (fun k => B ≤ k) w w' := by
  have := append_1 (t := 57) (by kernel_rfl) info_str rfl (by decide) B v ls.length (sC ls) [.string ⟨x.toArray⟩] w hown hB (by simp only [List.length_cons, List.length_nil]; omega) (by
    intro u hu
    rw [List.mem_singleton.1 hu]; rfl) ty
  simpa [sC] using this

theorem own_T {α : Type} {e : TypeId} {B : Nat} {v : Value} {l : List α} (f : α → Value) {w : World} (h : w.ownsRow B e 1 v l.length (l.map f)) : IsT (fun x => [f x]) 1 w v l := by
  rcases h.2 with ⟨rfl, h0⟩ | ⟨g, cap, cur, rfl, _, hg, hn, _, hcs, htk⟩
  · have : l = [] := List.length_eq_zero_iff.1 h0
    subst this; exact IsT.nil _ _
  · refine ⟨⟨_, _, rfl⟩, fun i x hx => ⟨g, 0, cap, cur, _, _, rfl, hg, ?_, ?_⟩⟩
    · have := (List.getElem?_eq_some_iff.1 hx).1
      omega
    · have hi := (List.getElem?_eq_some_iff.1 hx).1
      have h1 : (cur.toList.take (l.length * 1))[i]? = (l.map f)[i]? := by rw [htk]
      rw [List.getElem?_take, if_pos (by omega), Array.getElem?_toList, List.getElem?_map, hx] at h1
      apply Array.ext
      · simp; omega
      · intro j h2 h3
        have hj : j = 0 := by simp at h3; omega
        subst hj
        simp only [Option.map_some] at h1
        obtain ⟨h4, h5⟩ := Array.getElem?_eq_some_iff.1 h1
        simp [h5]

theorem joinO_c (B : Nat) (v : Value) (ls : List (List UInt8)) (w : World) (K : Value → World → Prop) (hO : w.ownsRow B 9 1 v ls.length (sC ls)) (hN : ls.length ≤ 140737488355328) (hlen : (Lib.join ls [32]).length ≤ 140737488355328)
    (h : ∀ w', Mod (fun _ => False) w w' → K (.string ⟨(Lib.join ls [32]).toArray⟩) w') : Ok Proofs.Tryz.prog 44 #[v, .string ⟨#[32]⟩] w K := by
  have e : (ls.map fun l => (⟨l.toArray⟩ : ByteArray)).map (·.data.toList) = ls := by
    rw [List.map_map]
    exact List.map_id' ls
  rcases hO.2 with ⟨rfl, h0⟩ | ⟨g, cap, cur, rfl, _, hg, hn, _, hcs, htk⟩
  · have : ls = [] := List.length_eq_zero_iff.1 h0
    subst this
    refine ok_of_calls (by kernel_rfl) (Go.Proofs.Tryz.strings_Join_none none 0 ⟨#[32]⟩ w) ?_
    rintro e w' ⟨rfl, rfl⟩
    exact ⟨_, rfl, h _ (Mod.refl _ _)⟩
  · have := join_c g (ls.map fun l => (⟨l.toArray⟩ : ByteArray)) ⟨#[32]⟩ cap cur _ _ w K hg ?_ (by simpa using hn) (by simpa using hN) ?_ ?_
    · rw [List.length_map] at this; exact this
    · intro j x hj
      rw [List.getElem?_map] at hj
      obtain ⟨y, hy, rfl⟩ := Option.map_eq_some_iff.1 hj
      have hi := (List.getElem?_eq_some_iff.1 hy).1
      have h1 : (cur.toList.take (ls.length * 1))[j]? = (sC ls)[j]? := by rw [htk]
      rw [List.getElem?_take, if_pos (by omega), Array.getElem?_toList, sC, List.getElem?_map, hy] at h1
      exact h1
    · rw [e]; exact hlen
    · rw [e]; exact h

theorem decs_len (l : List Nat) (h : ∀ n ∈ l, n < 2 ^ 64) : (Lib.join (l.map Lib.decDigits) [32]).length ≤ 21 * l.length := by
  have := join_len 20 (l.map Lib.decDigits) (fun x hx => by
    obtain ⟨n, hn, rfl⟩ := List.mem_map.1 hx
    exact dec_len n (h n hn))
  rwa [List.length_map] at this

theorem list64_c (l : List Nat) (v : Value) (w : World) (K : Value → World → Prop) (ht : Tab w) (hv : IsT u64C 1 w v l) (hl : l.length ≤ 1000) (hlt : ∀ n ∈ l, n < 2 ^ 64)
    (h : ∀ w', Mod (fun _ => False) w w' → K (.string ⟨(listL l).toArray⟩) w') : Ok Proofs.Tryz.prog 31 #[v] w K := by
  obtain ⟨⟨a, cp, rfl⟩, _⟩ := id hv
  refine F31.enter (args := [.slice a l.length cp]) (by simp) ?_
  unfold c31 r31
  simp only [vc_seq, vc_block, vc_ops, vcOps_nil, vcOps_cons, goL_apply, thenQ_normal, upd_same, upd_other, updO_some, ev_tmp, ev_const, initE_at, insVc, lenLK, ne_eq, not_false_eq_true, reduceCtorEq, Option.getD_some, List.getElem?_cons_zero]
  refine vc_loop (fun mm ρ ds u => ∃ i v3, i ≤ l.length ∧ mm = l.length - i ∧ ds = [] ∧ ρ 3 = v3 ∧ ρ 6 = .slice a l.length cp ∧ ρ 7 = .int .i64 l.length ∧ ρ 8 = .int .i64 i ∧
    Mod (fun _ => False) w u ∧ u.ownsRow w.heap.size 9 1 v3 ((l.take i).map Lib.decDigits).length (sC ((l.take i).map Lib.decDigits))) l.length ?_ ?_
  · refine ⟨0, _, Nat.zero_le _, rfl, rfl, rfl, ?_, ?_, ?_, Mod.refl _ _, ?_⟩
    · simp only [upd_same, upd_other, ne_eq, not_false_eq_true, Nat.reduceEqDiff]
    · simp only [upd_same, upd_other, ne_eq, not_false_eq_true, Nat.reduceEqDiff]
    · simp only [upd_same]; rfl
    · simp only [upd_same, upd_other, ne_eq, not_false_eq_true, Nat.reduceEqDiff, List.map_nil, List.length_nil, List.take_zero]; exact World.ownsRow_nil _ _ _ 1
  · rintro mm ρ ds u ⟨i, v3, hi, rfl, rfl, h3, h6, h7, h8, hmu, hO⟩
    by_cases hc : i < l.length
    · have d1 : (i : Int) < ((l.length : Nat) : Int) := by omega
      have hi0 : (0 : Int) ≤ (i : Int) ∧ (i : Int) < ((l.length : Nat) : Int) := by omega
      obtain ⟨n, hn⟩ : ∃ n, l[i]? = some n := ⟨l[i], List.getElem?_eq_getElem hc⟩
      obtain ⟨b, o, cur, t, f, rfl, hb, hsz, hex⟩ := (hv.keep hmu).at hn
      have hce : cur[o + i]? = some (.int .u64 n) := by
        have := extract_cell hsz hex (j := 0) (by decide)
        simpa [u64C] using this
      have hn64 := hlt n (List.mem_of_getElem? hn)
      have hw1 : IntKind.i64.wrap ((i : Int) + 1) = ((i + 1 : Nat) : Int) := by rw [wrap_i64 _ (by omega)]; omega
      have htk : (l.take (i + 1)).map Lib.decDigits = (l.take i).map Lib.decDigits ++ [Lib.decDigits n] := by
        rw [List.take_add_one, hn]; simp
      simp only [vc_skip, vc_seq, vc_cond, vc_block, vc_ops, vcOps_nil, vcOps_cons, goL_apply, thenQ_normal, condP_true, upd_same, upd_other, updO_some, ev_tmp, insVc, load1K, loadO_cells, loadV_some, iopK, iopV, iaddrK, ne_eq, not_false_eq_true, Nat.reduceEqDiff, reduceCtorEq, List.map_cons, List.map_nil, true_and, or_false, and_self, decide_true, Int.toNat_natCast, Nat.mul_one, h3, h6, h7, h8, d1, hi0, hb, hce]
      refine num64_c n hn64 u _ (ht.mod hmu) ?_
      intro u1 hm1
      have hO1 := own_keep' hO hm1 (fun _ _ x => x)
      have hmu1 := hmu.trans hm1
      obtain ⟨v', u', hr, hO', hmu'⟩ := append_s w.heap.size v3 _ (Lib.decDigits n) u1 hO1 hmu1.size (by rw [List.length_map, List.length_take]; omega) 57
      rw [← htk] at hO'
      simp only [vcOps_cons, goL_apply, upd_same, updO_some, ev_tmp, insVc, fillL, buildSK, Value.cells, Nat.reduceLeDiff, List.size_toArray, List.length_cons, List.length_nil, List.zipIdx_cons, List.zipIdx_nil, List.foldl_cons, List.foldl_nil, List.setIfInBounds_toArray, List.set_cons_zero, List.toList_toArray, and_self, if_true, Nat.zero_add]
      refine rawK_append rfl rfl rfl (by simp only [upd_same, upd_other, ev_tmp, ne_eq, not_false_eq_true, Nat.reduceEqDiff]; exact hr) ?_
      simp only [vc_ops, vcOps_nil, vcOps_cons, goL_apply, thenQ_normal, blockQ_normal, upd_same, upd_other, updO_some, ev_tmp, ev_const, insVc, loadV_some, iopK, iopV, ne_eq, not_false_eq_true, Nat.reduceEqDiff, reduceCtorEq, true_and, or_false, h6, h7, h8, hw1]
      exact ⟨l.length - (i + 1), by omega, i + 1, _, by omega, rfl, rfl, rfl, hmu1.then hmu' (fun k hk hk' => by omega), by simpa using hO'⟩
    · have d1 : ¬ (i : Int) < ((l.length : Nat) : Int) := by omega
      have hie : i = l.length := by omega
      rw [hie, List.take_length] at hO
      have hdl := decs_len l hlt
      simp only [vc_seq, vc_cond, vc_exit, vc_ops, vcOps_nil, vcOps_cons, goL_apply, thenQ_normal, thenQ_exit, blockQ_same, condP_false, upd_same, upd_other, updO_some, ev_tmp, ev_const, insVc, loadV_some, iopK, iopV, ne_eq, not_false_eq_true, Nat.reduceEqDiff, reduceCtorEq, List.map_cons, List.map_nil, true_and, or_false, decide_false, h3, h7, h8, d1]
      refine joinO_c w.heap.size v3 _ u _ hO (by rw [List.length_map]; omega) (by omega) ?_
      intro u1 hm1
      simp only [vc_ret, vcOps_nil, vcOps_cons, goL_apply, thenQ_normal, upd_same, updO_some, ev_tmp, ev_const, endQ_ret, endK, resK, packed, insVc, Nat.reduceLeDiff, List.length_cons, List.length_nil, List.nil_append, List.cons_append, Nat.zero_add, sopK_add]
      exact ⟨by omega, by omega, h u1 (hmu.trans hm1)⟩

theorem list32_c (l : List Nat) (v : Value) (w : World) (K : Value → World → Prop) (ht : Tab w) (hv : IsT u32C 1 w v l) (hl : l.length ≤ 1000) (hlt : ∀ n ∈ l, n < 2 ^ 32)
    (h : ∀ w', Mod (fun _ => False) w w' → K (.string ⟨(listL l).toArray⟩) w') : Ok Proofs.Tryz.prog 38 #[v] w K := by
  obtain ⟨⟨a, cp, rfl⟩, _⟩ := id hv
  refine F38.enter (args := [.slice a l.length cp]) (by simp) ?_
  unfold c38 r38
  simp only [vc_seq, vc_block, vc_ops, vcOps_nil, vcOps_cons, goL_apply, thenQ_normal, upd_same, upd_other, updO_some, ev_tmp, ev_const, initE_at, insVc, lenLK, ne_eq, not_false_eq_true, reduceCtorEq, Option.getD_some, List.getElem?_cons_zero]
  refine vc_loop (fun mm ρ ds u => ∃ i v3, i ≤ l.length ∧ mm = l.length - i ∧ ds = [] ∧ ρ 3 = v3 ∧ ρ 6 = .slice a l.length cp ∧ ρ 7 = .int .i64 l.length ∧ ρ 8 = .int .i64 i ∧
    Mod (fun _ => False) w u ∧ u.ownsRow w.heap.size 9 1 v3 ((l.take i).map Lib.decDigits).length (sC ((l.take i).map Lib.decDigits))) l.length ?_ ?_
  · refine ⟨0, _, Nat.zero_le _, rfl, rfl, rfl, ?_, ?_, ?_, Mod.refl _ _, ?_⟩
    · simp only [upd_same, upd_other, ne_eq, not_false_eq_true, Nat.reduceEqDiff]
    · simp only [upd_same, upd_other, ne_eq, not_false_eq_true, Nat.reduceEqDiff]
    · simp only [upd_same]; rfl
    · simp only [upd_same, upd_other, ne_eq, not_false_eq_true, Nat.reduceEqDiff, List.map_nil, List.length_nil, List.take_zero]; exact World.ownsRow_nil _ _ _ 1
  · rintro mm ρ ds u ⟨i, v3, hi, rfl, rfl, h3, h6, h7, h8, hmu, hO⟩
    by_cases hc : i < l.length
    · have d1 : (i : Int) < ((l.length : Nat) : Int) := by omega
      have hi0 : (0 : Int) ≤ (i : Int) ∧ (i : Int) < ((l.length : Nat) : Int) := by omega
      obtain ⟨n, hn⟩ : ∃ n, l[i]? = some n := ⟨l[i], List.getElem?_eq_getElem hc⟩
      obtain ⟨b, o, cur, t, f, rfl, hb, hsz, hex⟩ := (hv.keep hmu).at hn
      have hce : cur[o + i]? = some (.int .u32 n) := by
        have := extract_cell hsz hex (j := 0) (by decide)
        simpa [u32C] using this
      have hn64 := hlt n (List.mem_of_getElem? hn)
      have hw1 : IntKind.i64.wrap ((i : Int) + 1) = ((i + 1 : Nat) : Int) := by rw [wrap_i64 _ (by omega)]; omega
      have htk : (l.take (i + 1)).map Lib.decDigits = (l.take i).map Lib.decDigits ++ [Lib.decDigits n] := by
        rw [List.take_add_one, hn]; simp
      simp only [vc_skip, vc_seq, vc_cond, vc_block, vc_ops, vcOps_nil, vcOps_cons, goL_apply, thenQ_normal, condP_true, upd_same, upd_other, updO_some, ev_tmp, insVc, load1K, loadO_cells, loadV_some, iopK, iopV, iaddrK, ne_eq, not_false_eq_true, Nat.reduceEqDiff, reduceCtorEq, List.map_cons, List.map_nil, true_and, or_false, and_self, decide_true, Int.toNat_natCast, Nat.mul_one, h3, h6, h7, h8, d1, hi0, hb, hce]
      refine num32_c n hn64 u _ (ht.mod hmu) ?_
      intro u1 hm1
      have hO1 := own_keep' hO hm1 (fun _ _ x => x)
      have hmu1 := hmu.trans hm1
      obtain ⟨v', u', hr, hO', hmu'⟩ := append_s w.heap.size v3 _ (Lib.decDigits n) u1 hO1 hmu1.size (by rw [List.length_map, List.length_take]; omega) 57
      rw [← htk] at hO'
      simp only [vcOps_cons, goL_apply, upd_same, updO_some, ev_tmp, insVc, fillL, buildSK, Value.cells, Nat.reduceLeDiff, List.size_toArray, List.length_cons, List.length_nil, List.zipIdx_cons, List.zipIdx_nil, List.foldl_cons, List.foldl_nil, List.setIfInBounds_toArray, List.set_cons_zero, List.toList_toArray, and_self, if_true, Nat.zero_add]
      refine rawK_append rfl rfl rfl (by simp only [upd_same, upd_other, ev_tmp, ne_eq, not_false_eq_true, Nat.reduceEqDiff]; exact hr) ?_
      simp only [vc_ops, vcOps_nil, vcOps_cons, goL_apply, thenQ_normal, blockQ_normal, upd_same, upd_other, updO_some, ev_tmp, ev_const, insVc, loadV_some, iopK, iopV, ne_eq, not_false_eq_true, Nat.reduceEqDiff, reduceCtorEq, true_and, or_false, h6, h7, h8, hw1]
      exact ⟨l.length - (i + 1), by omega, i + 1, _, by omega, rfl, rfl, rfl, hmu1.then hmu' (fun k hk hk' => by omega), by simpa using hO'⟩
    · have d1 : ¬ (i : Int) < ((l.length : Nat) : Int) := by omega
      have hie : i = l.length := by omega
      rw [hie, List.take_length] at hO
      have hdl := decs_len l (fun n hn => by have := hlt n hn; omega)
      simp only [vc_seq, vc_cond, vc_exit, vc_ops, vcOps_nil, vcOps_cons, goL_apply, thenQ_normal, thenQ_exit, blockQ_same, condP_false, upd_same, upd_other, updO_some, ev_tmp, ev_const, insVc, loadV_some, iopK, iopV, ne_eq, not_false_eq_true, Nat.reduceEqDiff, reduceCtorEq, List.map_cons, List.map_nil, true_and, or_false, decide_false, h3, h7, h8, d1]
      refine joinO_c w.heap.size v3 _ u _ hO (by rw [List.length_map]; omega) (by omega) ?_
      intro u1 hm1
      simp only [vc_ret, vcOps_nil, vcOps_cons, goL_apply, thenQ_normal, upd_same, updO_some, ev_tmp, ev_const, endQ_ret, endK, resK, packed, insVc, Nat.reduceLeDiff, List.length_cons, List.length_nil, List.nil_append, List.cons_append, Nat.zero_add, sopK_add]
      exact ⟨by omega, by omega, h u1 (hmu.trans hm1)⟩

theorem rlist_c (l : List Nat) (v : Value) (w : World) (K : Value → World → Prop) (hv : IsT u64C 1 w v l) (hl : l.length ≤ 1000) (hlt : ∀ n ∈ l, n < 2 ^ 64)
    (h : ∀ w', Mod (fun _ => False) w w' → K (.string ⟨(listL l).toArray⟩) w') : Ok Proofs.Tryz.prog 33 #[v] w K := by
  obtain ⟨⟨a, cp, rfl⟩, _⟩ := id hv
  refine F33.enter (args := [.slice a l.length cp]) (by simp) ?_
  unfold c33 r33
  simp only [vc_seq, vc_block, vc_ops, vcOps_nil, vcOps_cons, goL_apply, thenQ_normal, upd_same, upd_other, updO_some, ev_tmp, ev_const, initE_at, insVc, lenLK, ne_eq, not_false_eq_true, reduceCtorEq, Option.getD_some, List.getElem?_cons_zero]
  refine vc_loop (fun mm ρ ds u => ∃ i, i ≤ l.length ∧ mm = l.length - i ∧ ds = [] ∧ ρ 3 = .string ⟨(91 :: Lib.join ((l.take i).map Lib.decDigits) [32]).toArray⟩ ∧ ρ 6 = .slice a l.length cp ∧ ρ 7 = .int .i64 l.length ∧ ρ 8 = .int .i64 i ∧
    Mod (fun _ => False) w u) l.length ?_ ?_
  · refine ⟨0, Nat.zero_le _, rfl, rfl, ?_, ?_, ?_, ?_, Mod.refl _ _⟩
    · simp only [upd_same, upd_other, ne_eq, not_false_eq_true, Nat.reduceEqDiff, List.map_nil, List.take_zero]; rfl
    · simp only [upd_same, upd_other, ne_eq, not_false_eq_true, Nat.reduceEqDiff]
    · simp only [upd_same, upd_other, ne_eq, not_false_eq_true, Nat.reduceEqDiff]
    · simp only [upd_same]; rfl
  · rintro mm ρ ds u ⟨i, hi, rfl, rfl, h3, h6, h7, h8, hmu⟩
    have hdl := decs_len (l.take i) (fun n hn => hlt n (List.mem_of_mem_take hn))
    rw [List.length_take, Nat.min_eq_left hi] at hdl
    by_cases hc : i < l.length
    · have d1 : (i : Int) < ((l.length : Nat) : Int) := by omega
      have hi0 : (0 : Int) ≤ (i : Int) ∧ (i : Int) < ((l.length : Nat) : Int) := by omega
      obtain ⟨n, hn⟩ : ∃ n, l[i]? = some n := ⟨l[i], List.getElem?_eq_getElem hc⟩
      obtain ⟨b, o, cur, t, f, rfl, hb, hsz, hex⟩ := (hv.keep hmu).at hn
      have hce : cur[o + i]? = some (.int .u64 n) := by
        have := extract_cell hsz hex (j := 0) (by decide)
        simpa [u64C] using this
      have hn64 := hlt n (List.mem_of_getElem? hn)
      have hd20 := dec_len n hn64
      have hw1 : IntKind.i64.wrap ((i : Int) + 1) = ((i + 1 : Nat) : Int) := by rw [wrap_i64 _ (by omega)]; omega
      have htk : (l.take (i + 1)).map Lib.decDigits = (l.take i).map Lib.decDigits ++ [Lib.decDigits n] := by
        rw [List.take_add_one, hn]; simp
      by_cases hi1 : i = 0
      · have d2 : ¬ (i : Int) > 0 := by omega
        simp only [vc_skip, vc_seq, vc_cond, vc_block, vc_ops, vcOps_nil, vcOps_cons, goL_apply, thenQ_normal, condP_true, condP_false, upd_same, upd_other, updO_some, ev_tmp, ev_const, insVc, load1K, loadO_cells, loadV_some, iopK, iopV, iaddrK, ne_eq, not_false_eq_true, Nat.reduceEqDiff, reduceCtorEq, List.map_cons, List.map_nil, true_and, or_false, and_self, decide_true, decide_false, Int.toNat_natCast, Nat.mul_one, h3, h6, h7, h8, d1, hi0, hb, hce, d2]
        refine rdec_c n hn64 u _ ?_
        intro u1 hm1
        simp only [vc_ops, vcOps_nil, vcOps_cons, goL_apply, thenQ_normal, blockQ_normal, upd_same, upd_other, updO_some, ev_tmp, ev_const, insVc, loadV_some, iopK, iopV, ne_eq, not_false_eq_true, Nat.reduceEqDiff, reduceCtorEq, List.length_cons, List.cons_append, true_and, or_false, sopK_add, h6, h7, h8, hw1]
        refine ⟨by omega, l.length - (i + 1), by omega, i + 1, by omega, rfl, ?_, rfl, hmu.trans hm1⟩
        rw [htk, hi1]
        simp [Lib.join_one, Lib.join_nil]
      · have d2 : (i : Int) > 0 := by omega
        simp only [vc_skip, vc_seq, vc_cond, vc_block, vc_ops, vcOps_nil, vcOps_cons, goL_apply, thenQ_normal, condP_true, upd_same, upd_other, updO_some, ev_tmp, ev_const, insVc, load1K, loadO_cells, loadV_some, iopK, iopV, iaddrK, ne_eq, not_false_eq_true, Nat.reduceEqDiff, Nat.reduceLeDiff, reduceCtorEq, List.map_cons, List.map_nil, List.length_cons, List.length_nil, List.cons_append, true_and, or_false, and_self, Nat.zero_add, decide_true, Int.toNat_natCast, Nat.mul_one, sopK_add, h3, h6, h7, h8, d1, hi0, hb, hce, d2]
        refine ⟨by omega, ?_⟩
        refine rdec_c n hn64 u _ ?_
        intro u1 hm1
        simp only [vc_ops, vcOps_nil, vcOps_cons, goL_apply, thenQ_normal, blockQ_normal, upd_same, upd_other, updO_some, ev_tmp, ev_const, insVc, loadV_some, iopK, iopV, ne_eq, not_false_eq_true, Nat.reduceEqDiff, reduceCtorEq, List.length_cons, List.cons_append, true_and, or_false, sopK_add, h6, h7, h8, hw1]
        refine ⟨by simp only [List.length_append, List.length_cons, List.length_nil]; omega, l.length - (i + 1), by omega, i + 1, by omega, rfl, ?_, rfl, hmu.trans hm1⟩
        rw [htk, join_snoc _ _ _ (by
          intro e
          have := congrArg List.length e
          rw [List.length_map, List.length_take, List.length_nil] at this
          omega)]
        simp
    · have d1 : ¬ (i : Int) < ((l.length : Nat) : Int) := by omega
      have hie : i = l.length := by omega
      rw [hie, List.take_length] at h3
      have hdl := decs_len l hlt
      simp only [vc_seq, vc_cond, vc_exit, vc_ret, vc_ops, vcOps_nil, vcOps_cons, goL_apply, thenQ_normal, thenQ_exit, blockQ_same, condP_false, upd_same, upd_other, updO_some, ev_tmp, ev_const, endQ_ret, endK, resK, packed, insVc, loadV_some, iopK, iopV, ne_eq, not_false_eq_true, Nat.reduceEqDiff, Nat.reduceLeDiff, reduceCtorEq, List.length_cons, List.length_nil, List.nil_append, List.cons_append, true_and, or_false, Nat.zero_add, decide_false, sopK_add, h3, h7, h8, d1]
      exact ⟨by omega, h u hmu⟩

theorem rwide_c (l : List Nat) (v : Value) (w : World) (K : Value → World → Prop) (hv : IsT u32C 1 w v l) (hl : l.length ≤ 1000) (hlt : ∀ n ∈ l, n < 2 ^ 32)
    (h : ∀ w' v', Mod (fun _ => False) w w' → IsT u64C 1 w' v' l → K v' w') : Ok Proofs.Tryz.prog 39 #[v] w K := by
  obtain ⟨⟨a, cp, rfl⟩, _⟩ := id hv
  refine F39.enter (args := [.slice a l.length cp]) (by simp) ?_
  unfold c39 r39
  simp only [vc_seq, vc_block, vc_ops, vcOps_nil, vcOps_cons, goL_apply, thenQ_normal, upd_same, upd_other, updO_some, ev_tmp, ev_const, initE_at, insVc, lenLK, ne_eq, not_false_eq_true, reduceCtorEq, Option.getD_some, List.getElem?_cons_zero]
  refine vc_loop (fun mm ρ ds u => ∃ i v3, i ≤ l.length ∧ mm = l.length - i ∧ ds = [] ∧ ρ 3 = v3 ∧ ρ 6 = .slice a l.length cp ∧ ρ 7 = .int .i64 l.length ∧ ρ 8 = .int .i64 i ∧
    Mod (fun _ => False) w u ∧ u.ownsRow w.heap.size 23 1 v3 i ((l.take i).map fun n : Nat => Value.int .u64 (n : Int))) l.length ?_ ?_
  · refine ⟨0, _, Nat.zero_le _, rfl, rfl, rfl, ?_, ?_, ?_, Mod.refl _ _, ?_⟩
    · simp only [upd_same, upd_other, ne_eq, not_false_eq_true, Nat.reduceEqDiff]
    · simp only [upd_same, upd_other, ne_eq, not_false_eq_true, Nat.reduceEqDiff]
    · simp only [upd_same]; rfl
    · simp only [upd_same, upd_other, ne_eq, not_false_eq_true, Nat.reduceEqDiff, List.map_nil, List.take_zero]; exact World.ownsRow_nil _ _ _ 1
  · rintro mm ρ ds u ⟨i, v3, hi, rfl, rfl, h3, h6, h7, h8, hmu, hO⟩
    by_cases hc : i < l.length
    · have d1 : (i : Int) < ((l.length : Nat) : Int) := by omega
      have hi0 : (0 : Int) ≤ (i : Int) ∧ (i : Int) < ((l.length : Nat) : Int) := by omega
      obtain ⟨n, hn⟩ : ∃ n, l[i]? = some n := ⟨l[i], List.getElem?_eq_getElem hc⟩
      obtain ⟨b, o, cur, t, f, rfl, hb, hsz, hex⟩ := (hv.keep hmu).at hn
      have hce : cur[o + i]? = some (.int .u32 n) := by
        have := extract_cell hsz hex (j := 0) (by decide)
        simpa [u32C] using this
      have hn32 := hlt n (List.mem_of_getElem? hn)
      have hw1 : IntKind.i64.wrap ((i : Int) + 1) = ((i + 1 : Nat) : Int) := by rw [wrap_i64 _ (by omega)]; omega
      have htk : (l.take (i + 1)).map (fun n : Nat => Value.int .u64 (n : Int)) = (l.take i).map (fun n : Nat => Value.int .u64 (n : Int)) ++ [.int .u64 n] := by
        rw [List.take_add_one, hn]; simp
      obtain ⟨v', u', hr, hO', hmu'⟩ := append_1 (t := 24) (e := 23) (by kernel_rfl) info_u64 rfl (by decide) w.heap.size v3 i _ [.int .u64 n] u hO hmu.size (by simp only [List.length_cons, List.length_nil]; omega) (by
        intro x hx
        rw [List.mem_singleton.1 hx]; rfl) 24
      rw [← htk] at hO'
      simp only [vc_skip, vc_seq, vc_cond, vc_block, vc_ops, vcOps_nil, vcOps_cons, goL_apply, thenQ_normal, condP_true, upd_same, upd_other, updO_some, ev_tmp, insVc, load1K, loadO_cells, loadV_some, iopK, iopV, convK, iaddrK, fillL, buildSK, Value.cells, ne_eq, not_false_eq_true, Nat.reduceEqDiff, Nat.reduceLeDiff, reduceCtorEq, List.size_toArray, List.length_cons, List.length_nil, List.zipIdx_cons, List.zipIdx_nil, List.foldl_cons, List.foldl_nil, List.setIfInBounds_toArray, List.set_cons_zero, List.toList_toArray, true_and, or_false, and_self, if_true, Nat.zero_add, decide_true, Int.toNat_natCast, Nat.mul_one, h3, h6, h7, h8, d1, hi0, hb, hce, wrap_u64 n (by omega)]
      refine rawK_append rfl rfl rfl (by simp only [upd_same, upd_other, ev_tmp, ne_eq, not_false_eq_true, Nat.reduceEqDiff]; exact hr) ?_
      simp only [vc_ops, vcOps_nil, vcOps_cons, goL_apply, thenQ_normal, blockQ_normal, upd_same, upd_other, updO_some, ev_tmp, ev_const, insVc, loadV_some, iopK, iopV, ne_eq, not_false_eq_true, Nat.reduceEqDiff, reduceCtorEq, true_and, or_false, h6, h7, h8, hw1]
      exact ⟨l.length - (i + 1), by omega, i + 1, _, by omega, rfl, rfl, rfl, hmu.then hmu' (fun k hk hk' => by omega), hO'⟩
    · have d1 : ¬ (i : Int) < ((l.length : Nat) : Int) := by omega
      have hie : i = l.length := by omega
      rw [hie, List.take_length] at hO
      simp only [vc_seq, vc_cond, vc_exit, vc_ret, vc_ops, vcOps_nil, vcOps_cons, goL_apply, thenQ_normal, thenQ_exit, blockQ_same, condP_false, upd_same, upd_other, updO_some, ev_tmp, endQ_ret, endK, resK, packed, insVc, loadV_some, iopK, iopV, ne_eq, not_false_eq_true, Nat.reduceEqDiff, reduceCtorEq, List.nil_append, true_and, or_false, decide_false, h3, h7, h8, d1]
      exact h u v3 hmu (own_T (fun n : Nat => Value.int .u64 (n : Int)) hO)
end Go.Oct

namespace Go.Oct
open Go Go.Vc Go.VrA Go.VrB Go.VrD
set_option maxRecDepth 100000

/-! ### the lines of messages, queues, bindings -/

def wMessage : List UInt8 := [109, 101, 115, 115, 97, 103, 101]
def wTries : List UInt8 := [116, 114, 105, 101, 115]
def wUntil : List UInt8 := [117, 110, 116, 105, 108]
def wNever : List UInt8 := [110, 101, 118, 101, 114]
def wBytes : List UInt8 := [98, 121, 116, 101, 115]
def untilL (n : Nat) : List UInt8 := if n = 0 then wNever else Lib.decDigits n
def msgW (m : Ms) : List (List UInt8) := [wMessage, quoteL m.queue.data.toList, 35 :: Lib.decDigits m.id, wTries, Lib.decDigits m.tries, wUntil, untilL m.expiry, Lib.decDigits m.body.size, wBytes]
def msgL (m : Ms) : List UInt8 := Lib.join (msgW m) [32]
def Ms.small (m : Ms) : Prop := m.queue.size ≤ 1000 ∧ m.body.size ≤ 1048576 ∧ m.id < 2 ^ 64 ∧ m.expiry < 2 ^ 64 ∧ m.tries < 2 ^ 32
theorem until_len (n : Nat) (h : n < 2 ^ 64) : (untilL n).length ≤ 20 := by
  unfold untilL
  split
  · decide
  · exact dec_len n h
theorem msgL_len (m : Ms) (h : m.small) : (msgL m).length ≤ 40000 := by
  obtain ⟨h1, h2, h3, h4, h5⟩ := h
  have hq := quoteL_len m.queue.data.toList
  have hqs : m.queue.data.toList.length = m.queue.size := rfl
  have := join_len 4002 (msgW m) (fun x hx => by
    simp only [msgW, List.mem_cons, List.not_mem_nil, or_false] at hx
    have d1 := dec_len m.id h3
    have d2 := dec_len m.tries (by omega)
    have d3 := until_len m.expiry h4
    have d4 := dec_len m.body.size (by omega)
    have e1 : wMessage.length = 7 := rfl
    have e2 : wTries.length = 5 := rfl
    have e3 : wUntil.length = 5 := rfl
    have e4 : wBytes.length = 5 := rfl
    rcases hx with rfl | rfl | rfl | rfl | rfl | rfl | rfl | rfl | rfl <;> first | omega | (rw [List.length_cons]; omega))
  have e : (msgW m).length = 9 := rfl
  rw [e] at this
  exact Nat.le_trans this (by decide)

theorem rowL_c (bk : Nat) (ls : List (List UInt8)) (n : Nat) (cur : Array Value) (t : TypeId) (f : Nat × Nat) (w : World) (K : Value → World → Prop) (hb : w.heap[bk]? = some (.cells cur t f)) (hcur : cur = (sC ls).toArray) (hn : n = ls.length) (hN : ls.length ≤ 100)
    (hlen : (Lib.join ls [32]).length ≤ 140737488355328)
    (h : ∀ w', Mod (fun _ => False) w w' → K (.string ⟨(Lib.join ls [32]).toArray⟩) w') : Ok Proofs.Tryz.prog 23 #[.slice (some ⟨bk, 0, none⟩) n n] w K := by
  subst hn hcur
  have e : (ls.map fun l => (⟨l.toArray⟩ : ByteArray)).map (·.data.toList) = ls := by
    rw [List.map_map]
    exact List.map_id' ls
  have := row175_c bk (ls.map fun l => (⟨l.toArray⟩ : ByteArray)) ls.length _ t f w K hb ?_ (by simp) (by rw [List.length_map]; omega) ?_ ?_
  · rw [List.length_map] at this; exact this
  · intro j x hj
    rw [List.getElem?_map] at hj
    obtain ⟨y, hy, rfl⟩ := Option.map_eq_some_iff.1 hj
    simp [sC, hy]
  · rw [e]; exact hlen
  · rw [e]; exact h

noncomputable def cMsgT : CC := subC c11 [1, 1, 1]
theorem cMsg_s : c11 = .seq (subC c11 [0]) (.seq (subC c11 [1, 0]) (.seq (subC c11 [1, 1, 0]) cMsgT)) := rfl
theorem msg_c (q : Ms) (hq : q.small) (w : World) (K : Value → World → Prop) (ht : Tab w) (h : ∀ w', Mod (fun _ => False) w w' → K (.string ⟨(msgL q).toArray⟩) w') : Ok Proofs.Tryz.prog 11 #[q.val] w K := by
  have hlen := msgL_len q hq
  obtain ⟨h1, h2, h3, h4, h5⟩ := hq
  have hd1 := dec_len q.id h3
  refine F11.enter (args := [q.val]) (by simp) ?_
  have tail : ∀ (ρ : Env) (u : World), Mod (fun _ => False) w u → u.heap[w.heap.size]? = some (.cells q.cells.toArray 44 (0, 0)) → ρ 1 = ptr w.heap.size → ρ 3 = .string ⟨(untilL q.expiry).toArray⟩ →
      vc Proofs.Tryz.prog none 27 cMsgT (endQ Proofs.Tryz.prog r11 K) ρ [] u := by
    intro ρ u hmu hx r1 r3
    simp only [cMsgT, subC, c11, vc_seq]
    refine draw_e (by kernel_rfl) (by kernel_rfl) (by kernel_rfl) (by kernel_rfl) ?_
    simp only [vc_ret, thenQ_normal, upd_same, upd_other, updO_some, ev_tmp, ev_const, endQ_ret, endK, resK, packed, insVc, load1K, loadO_cells, loadV_some, faddrK, lenSK, fillL, buildSK, Value.cells, ne_eq, not_false_eq_true, Nat.reduceEqDiff, Nat.reduceAdd, Nat.reduceLeDiff, List.map_cons, List.map_nil, List.getElem?_cons_zero, List.getElem?_cons_succ, List.getElem?_toArray, List.size_toArray, List.length_cons, List.length_nil, List.zipIdx_cons, List.zipIdx_nil, List.foldl_cons, List.foldl_nil, List.setIfInBounds_toArray, List.set_cons_zero, List.nil_append, List.toList_toArray, true_and, and_true, and_self, if_true, if_false, Bool.false_eq_true, Nat.zero_add, Nat.add_zero, pureI, kindI, loadI, vcE_nil, vcE_cons, stepE_pure, stepE_load, stepE_step, r1, r3, hx, Ms.cells]
    refine quote_c q.queue (by omega) u.drew _ ?_
    intro u1 hm1
    have hmd : Mod (fun _ => False) u u1 := (Mod.refl u (S := fun _ => False)).drew.trans hm1
    refine ⟨hmd, ?_⟩
    simp only [Nat.reduceAdd, Nat.reduceLeDiff, List.size_toArray, List.length_cons, List.length_nil, List.zipIdx_cons, List.zipIdx_nil, List.foldl_cons, List.foldl_nil, List.setIfInBounds_toArray, List.set_cons_zero, List.set_cons_succ, and_true, if_true, Nat.zero_add, Nat.add_zero]
    refine num64_c q.id h3 u1 _ (ht.mod (hmu.trans hmd)) ?_
    intro u2 hm2
    have hmd2 := hmd.trans hm2
    refine ⟨hmd2, ?_⟩
    simp only [Nat.reduceAdd, Nat.reduceLeDiff, List.size_toArray, List.length_cons, List.length_nil, List.zipIdx_cons, List.zipIdx_nil, List.foldl_cons, List.foldl_nil, List.setIfInBounds_toArray, List.set_cons_zero, List.set_cons_succ, List.nil_append, List.cons_append, and_true, if_true, Nat.zero_add, Nat.add_zero, sopK_add]
    refine ⟨by omega, ?_⟩
    refine num32_c q.tries h5 u2 _ (ht.mod (hmu.trans hmd2)) ?_
    intro u3 hm3
    have hmd3 := hmd2.trans hm3
    refine ⟨hmd3, ?_⟩
    simp only [Nat.reduceAdd, Nat.reduceLeDiff, List.size_toArray, List.length_cons, List.length_nil, List.zipIdx_cons, List.zipIdx_nil, List.foldl_cons, List.foldl_nil, List.setIfInBounds_toArray, List.set_cons_zero, List.set_cons_succ, and_true, if_true, Nat.zero_add, Nat.add_zero]
    refine numi_c q.body.size (by omega) u3 _ (ht.mod (hmu.trans hmd3)) ?_
    intro u4 hm4
    have hmd4 := hmd3.trans hm4
    refine ⟨hmd4, ?_⟩
    simp only [Nat.reduceAdd, Nat.reduceLeDiff, List.size_toArray, List.length_cons, List.length_nil, List.zipIdx_cons, List.zipIdx_nil, List.foldl_cons, List.foldl_nil, List.setIfInBounds_toArray, List.set_cons_zero, List.set_cons_succ, if_true, Nat.zero_add, Nat.add_zero]
    have hmd5 := hmd4.alloc (.cells (sC (msgW q)).toArray 9)
    refine ⟨hmd5, ?_⟩
    refine rowL_c u4.heap.size (msgW q) 9 _ _ _ _ _ (get_alloc_new _ _) rfl rfl (by show 9 ≤ 100; decide) (by show (msgL q).length ≤ _; omega) ?_
    intro u6 hm6
    have hmd6 := hmd5.trans hm6
    exact ⟨hmd6, h u6 (hmu.trans hmd6)⟩
  have hm1 : Mod (fun _ => False) w (w.alloc (.cells q.cells.toArray 44)) := (Mod.refl _ _).alloc _
  rw [cMsg_s]
  by_cases he : q.expiry = 0
  · have e1 : ((q.expiry : Int) != 0) = false := by rw [he]; rfl
    simp only [subC, c11, vc_skip, vc_seq, vc_cond, vc_ops, vcOps_nil, vcOps_cons, goL_apply, thenQ_normal, condP_false, upd_same, upd_other, updO_some, ev_tmp, ev_const, initE_at, insVc, load1K, loadO_cells, loadV_some, iopK, iopV, faddrK, Value.cells, ne_eq, not_false_eq_true, Nat.reduceEqDiff, reduceCtorEq, Option.getD_some, List.getElem?_cons_zero, List.getElem?_cons_succ, List.getElem?_toArray, true_and, or_false, Nat.zero_add, get_alloc_new, Ms.val, Ms.cells, e1]
    refine tail _ _ hm1 (get_alloc_new _ _) (by simp only [upd_same, upd_other, ne_eq, not_false_eq_true, Nat.reduceEqDiff]) (by simp only [upd_same, upd_other, ne_eq, not_false_eq_true, Nat.reduceEqDiff, if_true, untilL, he, wNever])
  · have e1 : ((q.expiry : Int) != 0) = true := by simp [he]
    simp only [subC, c11, vc_seq, vc_cond, vc_ops, vcOps_nil, vcOps_cons, goL_apply, thenQ_normal, condP_true, upd_same, upd_other, updO_some, ev_tmp, ev_const, initE_at, insVc, load1K, loadO_cells, loadV_some, iopK, iopV, faddrK, Value.cells, ne_eq, not_false_eq_true, Nat.reduceEqDiff, reduceCtorEq, Option.getD_some, List.map_cons, List.map_nil, List.getElem?_cons_zero, List.getElem?_cons_succ, List.getElem?_toArray, true_and, or_false, Nat.zero_add, get_alloc_new, Ms.val, Ms.cells, e1]
    refine num64_c q.expiry h4 _ _ (ht.mod hm1) ?_
    intro u hm2
    simp only [vcOps_nil, vcOps_cons, goL_apply, thenQ_normal, upd_same, updO_some, ev_tmp, insVc]
    refine tail _ _ (hm1.trans hm2) (hm2.keep (get_alloc_new _ _) id) (by simp only [upd_same, upd_other, ne_eq, not_false_eq_true, Nat.reduceEqDiff]) (by simp only [upd_same, if_false, untilL, he])

noncomputable def cRmsgT : CC := subC c12 [1, 1, 1]
theorem cRmsg_s : c12 = .seq (subC c12 [0]) (.seq (subC c12 [1, 0]) (.seq (subC c12 [1, 1, 0]) cRmsgT)) := rfl
theorem rmsg_c (q : Ms) (hq : q.small) (w : World) (K : Value → World → Prop) (h : ∀ w', Mod (fun _ => False) w w' → K (.string ⟨(msgL q).toArray⟩) w') : Ok Proofs.Tryz.prog 12 #[q.val] w K := by
  have hlen := msgL_len q hq
  obtain ⟨h1, h2, h3, h4, h5⟩ := hq
  have hd1 := dec_len q.id h3
  have hd2 := dec_len q.tries (by omega)
  have hd3 := until_len q.expiry h4
  have hd4 := dec_len q.body.size (by omega)
  have hq := quoteL_len q.queue.data.toList
  have hqs : q.queue.data.toList.length = q.queue.size := rfl
  refine F12.enter (args := [q.val]) (by simp) ?_
  have tail : ∀ (ρ : Env) (u : World), Mod (fun _ => False) w u → u.heap[w.heap.size]? = some (.cells q.cells.toArray 44 (0, 0)) → ρ 1 = ptr w.heap.size → ρ 3 = .string ⟨(untilL q.expiry).toArray⟩ →
      vc Proofs.Tryz.prog none 36 cRmsgT (endQ Proofs.Tryz.prog r12 K) ρ [] u := by
    intro ρ u hmu hx r1 r3
    simp only [cRmsgT, subC, c12, vc_seq]
    refine draw_e (by kernel_rfl) (by kernel_rfl) (by kernel_rfl) (by kernel_rfl) ?_
    simp only [vc_ret, thenQ_normal, upd_same, upd_other, updO_some, ev_tmp, ev_const, endQ_ret, endK, resK, packed, insVc, load1K, loadO_cells, loadV_some, convK, faddrK, lenSK, ne_eq, not_false_eq_true, Nat.reduceEqDiff, List.map_cons, List.map_nil, List.getElem?_cons_zero, List.getElem?_cons_succ, List.getElem?_toArray, List.nil_append, if_true, if_false, Bool.false_eq_true, Nat.zero_add, Nat.add_zero, pureI, kindI, loadI, vcE_nil, vcE_cons, stepE_pure, stepE_load, stepE_step, r1, r3, hx, Ms.cells]
    refine rquote_c q.queue (by omega) u.drew _ ?_
    intro u1 hm1
    have hmd : Mod (fun _ => False) u u1 := (Mod.refl u (S := fun _ => False)).drew.trans hm1
    refine ⟨hmd, ?_⟩
    simp only [Nat.reduceAdd, Nat.reduceLeDiff, List.length_cons, List.length_nil, List.nil_append, List.cons_append, Nat.zero_add, sopK_add]
    refine ⟨by omega, by omega, ?_⟩
    refine rdec_c q.id h3 u1 _ ?_
    intro u2 hm2
    have hmd2 := hmd.trans hm2
    refine ⟨hmd2, ?_⟩
    simp only [Nat.reduceAdd, Nat.reduceLeDiff, List.length_cons, List.length_nil, List.cons_append, Nat.zero_add, sopK_add, List.length_append, wrap_u64 q.tries (by omega)]
    refine ⟨by omega, by omega, ?_⟩
    refine rdec_c q.tries (by omega) u2 _ ?_
    intro u3 hm3
    have hmd3 := hmd2.trans hm3
    refine ⟨hmd3, ?_⟩
    simp only [Nat.reduceAdd, Nat.reduceLeDiff, List.length_cons, List.length_nil, List.cons_append, Nat.zero_add, sopK_add, List.length_append, wrap_u64 q.body.size (by omega)]
    refine ⟨by omega, by omega, by omega, by omega, ?_⟩
    refine rdec_c q.body.size (by omega) u3 _ ?_
    intro u4 hm4
    have hmd4 := hmd3.trans hm4
    refine ⟨hmd4, ?_⟩
    simp only [Nat.reduceAdd, Nat.reduceLeDiff, List.length_cons, List.length_nil, List.cons_append, Nat.zero_add, sopK_add, List.length_append]
    refine ⟨by omega, by omega, ?_⟩
    have e : (msgL q) = _ := rfl
    have := h u4 (hmu.trans hmd4)
    simp only [msgL, msgW, Lib.join_cons, joinTail_cons, joinTail_nil, wMessage, wTries, wUntil, wBytes] at this
    simpa using this
  have hm1 : Mod (fun _ => False) w (w.alloc (.cells q.cells.toArray 44)) := (Mod.refl _ _).alloc _
  rw [cRmsg_s]
  by_cases he : q.expiry = 0
  · have e1 : ((q.expiry : Int) == 0) = true := by rw [he]; rfl
    simp only [subC, c12, vc_seq, vc_ops, vcOps_nil, vcOps_cons, goL_apply, thenQ_normal, upd_same, upd_other, updO_some, ev_tmp, ev_const, initE_at, insVc, load1K, loadO_cells, loadV_some, faddrK, Value.cells, ne_eq, not_false_eq_true, Nat.reduceEqDiff, Option.getD_some, List.map_cons, List.map_nil, List.getElem?_cons_zero, List.getElem?_cons_succ, List.getElem?_toArray, Nat.zero_add, get_alloc_new, Ms.val, Ms.cells]
    refine rdec_c q.expiry h4 _ _ ?_
    intro u hm2
    have hx := hm2.keep (get_alloc_new w (.cells q.cells.toArray 44)) id
    simp only [vc_seq, vc_cond, vc_ops, vcOps_nil, vcOps_cons, goL_apply, thenQ_normal, condP_true, upd_same, upd_other, updO_some, ev_tmp, ev_const, insVc, load1K, loadO_cells, loadV_some, iopK, iopV, faddrK, ne_eq, not_false_eq_true, Nat.reduceEqDiff, reduceCtorEq, List.getElem?_cons_zero, List.getElem?_cons_succ, List.getElem?_toArray, true_and, or_false, Nat.zero_add, hx, Ms.cells, e1]
    refine tail _ _ (hm1.trans hm2) hx (by simp only [upd_same, upd_other, ne_eq, not_false_eq_true, Nat.reduceEqDiff]) (by simp only [upd_same, if_true, untilL, he, wNever])
  · have e1 : ((q.expiry : Int) == 0) = false := by rw [beq_eq_false_iff_ne]; omega
    simp only [subC, c12, vc_seq, vc_ops, vcOps_nil, vcOps_cons, goL_apply, thenQ_normal, upd_same, upd_other, updO_some, ev_tmp, ev_const, initE_at, insVc, load1K, loadO_cells, loadV_some, faddrK, Value.cells, ne_eq, not_false_eq_true, Nat.reduceEqDiff, Option.getD_some, List.map_cons, List.map_nil, List.getElem?_cons_zero, List.getElem?_cons_succ, List.getElem?_toArray, Nat.zero_add, get_alloc_new, Ms.val, Ms.cells]
    refine rdec_c q.expiry h4 _ _ ?_
    intro u hm2
    have hx := hm2.keep (get_alloc_new w (.cells q.cells.toArray 44)) id
    simp only [vc_skip, vc_seq, vc_cond, vc_ops, vcOps_nil, vcOps_cons, goL_apply, thenQ_normal, condP_false, upd_same, upd_other, updO_some, ev_tmp, ev_const, insVc, load1K, loadO_cells, loadV_some, iopK, iopV, faddrK, ne_eq, not_false_eq_true, Nat.reduceEqDiff, reduceCtorEq, List.getElem?_cons_zero, List.getElem?_cons_succ, List.getElem?_toArray, true_and, or_false, Nat.zero_add, hx, Ms.cells, e1]
    refine tail _ _ (hm1.trans hm2) hx (by simp only [upd_same, upd_other, ne_eq, not_false_eq_true, Nat.reduceEqDiff]) (by simp only [upd_same, upd_other, ne_eq, not_false_eq_true, Nat.reduceEqDiff, if_false, untilL, he])
end Go.Oct
