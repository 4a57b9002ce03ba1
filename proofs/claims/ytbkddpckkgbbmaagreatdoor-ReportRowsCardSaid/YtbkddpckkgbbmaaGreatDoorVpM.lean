import Derived.Test.YtbkddpckkgbbmaaGreatDoorVpK
set_option linter.unusedSimpArgs false
set_option linter.unusedVariables false
set_option linter.unusedSectionVars false
set_option linter.unnecessarySimpa false
namespace Go.Oct
open Go Go.Vc Go.VrA Go.VrB
set_option maxRecDepth 100000

/-! ### report.Lines -/

def IsSlc (w : World) (v : Value) (vs : List Value) : Prop :=
  (∃ a c, v = .slice a vs.length c) ∧ ∀ (i : Nat) x, vs[i]? = some x → ∃ b o c cur t f, v = .slice (some ⟨b, o, none⟩) vs.length c ∧ w.heap[b]? = some (.cells cur t f) ∧ cur[o + i]? = some x
theorem IsSlc.keep {w w' : World} {v : Value} {vs : List Value} (h : IsSlc w v vs) (hm : Mod (fun _ => False) w w') : IsSlc w' v vs :=
  ⟨h.1, fun i x hx => by obtain ⟨b, o, c, cur, t, f, h1, h2, h3⟩ := h.2 i x hx; exact ⟨b, o, c, cur, t, f, h1, hm.keep h2 id, h3⟩⟩

def lineL (s : ByteArray) : List UInt8 := 60 :: (s.data.toList ++ [62])
def linesL (l : List ByteArray) : List UInt8 := l.flatMap fun s => lineL s ++ [10]

theorem wrap47_c (s : ByteArray) (hs : s.size ≤ 300) (w : World) (K : Value → World → Prop) (h : K (.string ⟨(lineL s).toArray⟩) w) : Ok Proofs.Tryz.prog 47 #[.string s] w K := by
  refine F47.enter (args := [.string s]) (by simp) ?_
  unfold c47 r47
  have z1 : (⟨#[60]⟩ : ByteArray).size = 1 := rfl
  have z2 : (⟨#[62]⟩ : ByteArray).size = 1 := rfl
  have x1 : ¬ ((((⟨#[60]⟩ : ByteArray).size + s.size : Nat) : Int) > IntKind.i64.max) := by simp only [z1, imax]; omega
  have x2 : ¬ (((((⟨#[60]⟩ : ByteArray) ++ s).size + (⟨#[62]⟩ : ByteArray).size : Nat) : Int) > IntKind.i64.max) := by simp only [ByteArray.size_append, z1, z2, imax]; omega
  have x3 : (⟨#[60]⟩ : ByteArray) ++ s ++ (⟨#[62]⟩ : ByteArray) = ⟨(lineL s).toArray⟩ := by
    apply ByteArray.ext
    apply Array.ext'
    simp [lineL, ByteArray.data_append]
  simp only [vc_seq, vc_ret, vc_ops, vcOps_nil, vcOps_cons, goL_apply, thenQ_normal, upd_same, upd_other, updO_some, ev_tmp, ev_const, endQ_ret, endK, resK, packed, initE_at, insVc, loadV_some, sopK, sopV, ne_eq, not_false_eq_true, reduceCtorEq, Option.getD_some, List.getElem?_cons_zero, List.nil_append, if_false, x1, x2, x3]
  exact h

theorem lines46_c (l : List ByteArray) (v : Value) (w : World) (K : Value → World → Prop) (hv : IsSlc w v (l.map .string)) (hl : l.length ≤ 100) (hs : ∀ s ∈ l, s.size ≤ 300)
    (h : ∀ w', Mod (fun _ => False) w w' → K (.string ⟨(linesL l).toArray⟩) w') : Ok Proofs.Tryz.prog 46 #[v, .func (.func 47) #[] #[]] w K := by
  obtain ⟨⟨a0, c0, hva⟩, hrd⟩ := hv
  rw [List.length_map] at hva
  subst hva
  refine F46.enter (args := [.slice a0 l.length c0, _]) (by simp) ?_
  unfold c46 r46
  simp only [vc_seq, vc_block, vc_ops, vcOps_nil, vcOps_cons, goL_apply, thenQ_normal, upd_same, upd_other, updO_some, ev_tmp, ev_const, initE_at, insVc, lenLK, Value.cells, ne_eq, not_false_eq_true, reduceCtorEq, Option.getD_some, List.getElem?_cons_zero]
  refine vc_gen2 ?_
  intro w1 hw1
  have hm1 : Mod (fun _ => False) w w1 := by rw [hw1]; exact (Mod.refl _ _).alloc _
  have hB1 : IsB w1 w.heap.size w.heap.size [] := isB_fresh w1 _ (by rw [hw1]; exact get_alloc_new _ _)
  clear hw1
  refine vc_loop (fun mm ρ ds u => ∃ i, i ≤ l.length ∧ mm = l.length - i ∧ ds = [] ∧ ρ 1 = .func (.func 47) #[] #[] ∧ ρ 5 = ptr w.heap.size ∧ ρ 8 = .slice a0 l.length c0 ∧ ρ 9 = .int .i64 l.length ∧ ρ 10 = .int .i64 i ∧
    Mod (fun _ => False) w u ∧ IsB u w.heap.size w.heap.size (linesL (l.take i)) ∧ (linesL (l.take i)).length ≤ i * 303) (l.length - 0) ?_ ?_
  · refine ⟨0, Nat.zero_le _, rfl, rfl, ?_, ?_, ?_, ?_, ?_, hm1, hB1, by simp [linesL]⟩ <;> simp only [upd_same, upd_other, initE_at, ne_eq, not_false_eq_true, Nat.reduceEqDiff, Option.getD_some, List.getElem?_cons_zero, List.getElem?_cons_succ]
    rfl
  · rintro mm ρ ds u ⟨i, hi, rfl, rfl, h1, h5, h8, h9, h10, hmu, hB, hlen⟩
    simp only [vc_seq, vc_cond, vc_ops, vcOps_nil, vcOps_cons, goL_apply, thenQ_normal, upd_same, updO_some, ev_tmp, insVc, loadV_some, iopK, iopV, reduceCtorEq, true_and, or_false, h9, h10]
    refine condP_split ?_ ?_
    · intro hc
      have hlt : i < l.length := by have := of_decide_eq_true hc; omega
      obtain ⟨s, hsi⟩ : ∃ s, l[i]? = some s := ⟨l[i], List.getElem?_eq_getElem hlt⟩
      have hss := hs s (List.mem_of_getElem? hsi)
      obtain ⟨b, o, c, cur, t, f, q1, q2, q3⟩ := hrd i (.string s) (by simp [hsi])
      obtain ⟨q4, _, q5⟩ := Value.slice.inj q1
      have q2' := hmu.keep q2 id
      have htk : l.take (i + 1) = l.take i ++ [s] := by rw [List.take_add_one, hsi]; rfl
      have hln : linesL (l.take (i + 1)) = linesL (l.take i) ++ (lineL s ++ [10]) := by rw [htk]; simp [linesL]
      have hli : (lineL s ++ [10]).length ≤ 303 := by
        have : s.data.toList.length = s.size := rfl
        simp only [lineL, List.length_append, List.length_cons, List.length_nil]; omega
      have hi0 : (0 : Int) ≤ (i : Int) ∧ (i : Int) < ((l.length : Nat) : Int) := by omega
      have hwr : IntKind.i64.wrap ((i : Int) + 1) = ((i + 1 : Nat) : Int) := by rw [wrap_i64 _ (by omega)]; omega
      simp only [vc_skip, vc_seq, vc_cond, vc_block, vc_ops, vcOps_nil, vcOps_cons, goL_apply, thenQ_normal, condP_true, upd_same, upd_other, updO_some, ev_tmp, insVc, load1K, loadO_cells, loadV_some, nilOf, pnilK, iaddrK, callvK, ne_eq, not_false_eq_true, Nat.reduceEqDiff, Bool.not_false, List.map_cons, List.map_nil, List.nil_append, List.append_nil, true_and, and_self, if_true, decide_true, Int.toNat_natCast, Nat.mul_one, h1, h8, q4, h10, hi0, q2', q3]
      refine wrap47_c s hss u _ ?_
      have hsz : (⟨(lineL s).toArray⟩ : ByteArray).size ≤ 302 := by
        have : s.data.toList.length = s.size := rfl
        show (lineL s).toArray.size ≤ 302
        simp only [lineL, List.size_toArray, List.length_append, List.length_cons, List.length_nil]; omega
      have z1 : (⟨#[10]⟩ : ByteArray).size = 1 := rfl
      have x1 : ¬ ((((⟨(lineL s).toArray⟩ : ByteArray).size + (⟨#[10]⟩ : ByteArray).size : Nat) : Int) > IntKind.i64.max) := by simp only [z1, imax]; omega
      have x2 : (⟨(lineL s).toArray⟩ : ByteArray) ++ (⟨#[10]⟩ : ByteArray) = ⟨(lineL s ++ [10]).toArray⟩ := by
        apply ByteArray.ext
        apply Array.ext'
        simp [ByteArray.data_append]
      simp only [vcOps_cons, goL_apply, upd_same, upd_other, updO_some, ev_tmp, ev_const, insVc, loadV_some, sopK, sopV, ne_eq, not_false_eq_true, Nat.reduceEqDiff, List.map_cons, List.map_nil, if_false, x1, x2, h5]
      refine wstr_c _ _ _ _ u _ hB ?_ hmu.size ?_
      · have : (⟨(lineL s ++ [10]).toArray⟩ : ByteArray).size = (lineL s ++ [10]).length := by simp [ByteArray.size]
        rw [this]; omega
      intro u' hmu' hB'
      simp only [vc_ops, vcOps_nil, vcOps_cons, goL_apply, thenQ_normal, blockQ_normal, upd_same, upd_other, updO_some, ev_tmp, ev_const, insVc, loadV_some, iopK, iopV, ne_eq, not_false_eq_true, Nat.reduceEqDiff, reduceCtorEq, true_and, or_false, h1, h5, h8, h9, h10, hwr]
      refine ⟨l.length - (i + 1), by omega, i + 1, by omega, rfl, ?_⟩
      simp only [true_and, q4]
      refine ⟨hmu.then hmu' (fun k hk hk' => by omega), ?_, ?_⟩
      · rw [hln]; simpa using hB'
      · rw [hln, List.length_append]; omega
    · intro hc
      have hge : i = l.length := by have := of_decide_eq_false hc; omega
      subst hge
      simp only [vc_seq, vc_exit, vc_ops, vcOps_cons, thenQ_normal, thenQ_exit, blockQ_same, upd_other, ev_tmp, insVc, ne_eq, not_false_eq_true, Nat.reduceEqDiff, List.map_cons, List.map_nil, h5]
      refine bstring_c w.heap.size w.heap.size _ u _ hB hmu.size ?_
      intro u' hmu'
      simp only [vc_ret, vcOps_nil, vcOps_cons, goL_apply, thenQ_normal, upd_same, updO_some, ev_tmp, endQ_ret, endK, resK, packed, insVc, List.nil_append, List.take_length]
      exact h u' (hmu.then hmu' (fun k hk hk' => by omega))

/-- no function: no line. -/
theorem lines48_nil_c (l : List Value) (v : Value) (w : World) (K : Value → World → Prop) (hv : IsSlc w v l) (hl : l.length ≤ 100)
    (h : ∀ w', Mod (fun _ => False) w w' → K (.string ⟨#[]⟩) w') : Ok Proofs.Tryz.prog 48 #[v, .nilFunc] w K := by
  obtain ⟨⟨a0, c0, hva⟩, hrd⟩ := hv
  subst hva
  refine F48.enter (args := [.slice a0 l.length c0, _]) (by simp) ?_
  unfold c48 r48
  simp only [vc_seq, vc_block, vc_ops, vcOps_nil, vcOps_cons, goL_apply, thenQ_normal, upd_same, upd_other, updO_some, ev_tmp, ev_const, initE_at, insVc, lenLK, Value.cells, ne_eq, not_false_eq_true, reduceCtorEq, Option.getD_some, List.getElem?_cons_zero]
  refine vc_gen2 ?_
  intro w1 hw1
  have hm1 : Mod (fun _ => False) w w1 := by rw [hw1]; exact (Mod.refl _ _).alloc _
  have hB1 : IsB w1 w.heap.size w.heap.size [] := isB_fresh w1 _ (by rw [hw1]; exact get_alloc_new _ _)
  clear hw1
  refine vc_loop (fun mm ρ ds u => ∃ i, i ≤ l.length ∧ mm = l.length - i ∧ ds = [] ∧ ρ 1 = .nilFunc ∧ ρ 5 = ptr w.heap.size ∧ ρ 8 = .slice a0 l.length c0 ∧ ρ 9 = .int .i64 l.length ∧ ρ 10 = .int .i64 i ∧
    Mod (fun _ => False) w u ∧ IsB u w.heap.size w.heap.size []) (l.length - 0) ?_ ?_
  · refine ⟨0, Nat.zero_le _, rfl, rfl, ?_, ?_, ?_, ?_, ?_, hm1, hB1⟩ <;> simp only [upd_same, upd_other, initE_at, ne_eq, not_false_eq_true, Nat.reduceEqDiff, Option.getD_some, List.getElem?_cons_zero, List.getElem?_cons_succ]
    rfl
  · rintro mm ρ ds u ⟨i, hi, rfl, rfl, h1, h5, h8, h9, h10, hmu, hB⟩
    simp only [vc_seq, vc_cond, vc_ops, vcOps_nil, vcOps_cons, goL_apply, thenQ_normal, upd_same, updO_some, ev_tmp, insVc, loadV_some, iopK, iopV, reduceCtorEq, true_and, or_false, h9, h10]
    refine condP_split ?_ ?_
    · intro hc
      have hlt : i < l.length := by have := of_decide_eq_true hc; omega
      obtain ⟨s, hsi⟩ : ∃ s, l[i]? = some s := ⟨l[i], List.getElem?_eq_getElem hlt⟩
      obtain ⟨b, o, c, cur, t, f, q1, q2, q3⟩ := hrd i s hsi
      obtain ⟨q4, _, q5⟩ := Value.slice.inj q1
      have q2' := hmu.keep q2 id
      have hi0 : (0 : Int) ≤ (i : Int) ∧ (i : Int) < ((l.length : Nat) : Int) := by omega
      have hwr : IntKind.i64.wrap ((i : Int) + 1) = ((i + 1 : Nat) : Int) := by rw [wrap_i64 _ (by omega)]; omega
      simp only [vc_skip, vc_seq, vc_cond, vc_block, vc_ops, vcOps_nil, vcOps_cons, goL_apply, thenQ_normal, blockQ_normal, condP_false, upd_same, upd_other, updO_some, ev_tmp, ev_const, insVc, load1K, loadO_cells, loadV_some, iopK, iopV, nilOf, pnilK, iaddrK, ne_eq, not_false_eq_true, Nat.reduceEqDiff, reduceCtorEq, Bool.not_true, true_and, or_false, and_self, if_true, decide_true, Int.toNat_natCast, Nat.mul_one, h1, h5, h8, q4, h9, h10, hi0, q2', q3, hwr]
      refine ⟨l.length - (i + 1), by omega, i + 1, by omega, rfl, ?_⟩
      simp only [true_and]
      exact ⟨hmu, hB⟩
    · intro hc
      simp only [vc_seq, vc_exit, vc_ops, vcOps_cons, thenQ_normal, thenQ_exit, blockQ_same, upd_other, ev_tmp, insVc, ne_eq, not_false_eq_true, Nat.reduceEqDiff, List.map_cons, List.map_nil, h5]
      refine bstring_c w.heap.size w.heap.size _ u _ hB hmu.size ?_
      intro u' hmu'
      simp only [vc_ret, vcOps_nil, vcOps_cons, goL_apply, thenQ_normal, upd_same, updO_some, ev_tmp, endQ_ret, endK, resK, packed, insVc, List.nil_append]
      exact h u' (hmu.then hmu' (fun k hk hk' => by omega))

theorem empty49_c (x : Value) (w : World) (K : Value → World → Prop) (h : K (.string ⟨#[]⟩) w) : Ok Proofs.Tryz.prog 49 #[x] w K := by
  refine F49.enter (args := [x]) (by simp) ?_
  unfold c49 r49
  simp only [vc_seq, vc_ret, vc_ops, vcOps_nil, vcOps_cons, goL_apply, thenQ_normal, upd_same, updO_some, ev_const, endQ_ret, endK, resK, packed, insVc, List.nil_append]
  exact h

theorem lines48_c (l : List Value) (v : Value) (w : World) (K : Value → World → Prop) (hv : IsSlc w v l) (hl : l.length ≤ 100)
    (h : ∀ w', Mod (fun _ => False) w w' → K (.string ⟨(List.replicate l.length 10).toArray⟩) w') : Ok Proofs.Tryz.prog 48 #[v, .func (.func 49) #[] #[]] w K := by
  obtain ⟨⟨a0, c0, hva⟩, hrd⟩ := hv
  subst hva
  refine F48.enter (args := [.slice a0 l.length c0, _]) (by simp) ?_
  unfold c48 r48
  simp only [vc_seq, vc_block, vc_ops, vcOps_nil, vcOps_cons, goL_apply, thenQ_normal, upd_same, upd_other, updO_some, ev_tmp, ev_const, initE_at, insVc, lenLK, Value.cells, ne_eq, not_false_eq_true, reduceCtorEq, Option.getD_some, List.getElem?_cons_zero]
  refine vc_gen2 ?_
  intro w1 hw1
  have hm1 : Mod (fun _ => False) w w1 := by rw [hw1]; exact (Mod.refl _ _).alloc _
  have hB1 : IsB w1 w.heap.size w.heap.size [] := isB_fresh w1 _ (by rw [hw1]; exact get_alloc_new _ _)
  clear hw1
  refine vc_loop (fun mm ρ ds u => ∃ i, i ≤ l.length ∧ mm = l.length - i ∧ ds = [] ∧ ρ 1 = .func (.func 49) #[] #[] ∧ ρ 5 = ptr w.heap.size ∧ ρ 8 = .slice a0 l.length c0 ∧ ρ 9 = .int .i64 l.length ∧ ρ 10 = .int .i64 i ∧
    Mod (fun _ => False) w u ∧ IsB u w.heap.size w.heap.size (List.replicate i 10)) (l.length - 0) ?_ ?_
  · refine ⟨0, Nat.zero_le _, rfl, rfl, ?_, ?_, ?_, ?_, ?_, hm1, hB1⟩ <;> simp only [upd_same, upd_other, initE_at, ne_eq, not_false_eq_true, Nat.reduceEqDiff, Option.getD_some, List.getElem?_cons_zero, List.getElem?_cons_succ]
    rfl
  · rintro mm ρ ds u ⟨i, hi, rfl, rfl, h1, h5, h8, h9, h10, hmu, hB⟩
    simp only [vc_seq, vc_cond, vc_ops, vcOps_nil, vcOps_cons, goL_apply, thenQ_normal, upd_same, updO_some, ev_tmp, insVc, loadV_some, iopK, iopV, reduceCtorEq, true_and, or_false, h9, h10]
    refine condP_split ?_ ?_
    · intro hc
      have hlt : i < l.length := by have := of_decide_eq_true hc; omega
      obtain ⟨s, hsi⟩ : ∃ s, l[i]? = some s := ⟨l[i], List.getElem?_eq_getElem hlt⟩
      obtain ⟨b, o, c, cur, t, f, q1, q2, q3⟩ := hrd i s hsi
      obtain ⟨q4, _, q5⟩ := Value.slice.inj q1
      have q2' := hmu.keep q2 id
      have hi0 : (0 : Int) ≤ (i : Int) ∧ (i : Int) < ((l.length : Nat) : Int) := by omega
      have hwr : IntKind.i64.wrap ((i : Int) + 1) = ((i + 1 : Nat) : Int) := by rw [wrap_i64 _ (by omega)]; omega
      simp only [vc_skip, vc_seq, vc_cond, vc_block, vc_ops, vcOps_nil, vcOps_cons, goL_apply, thenQ_normal, condP_true, upd_same, upd_other, updO_some, ev_tmp, insVc, load1K, loadO_cells, loadV_some, nilOf, pnilK, iaddrK, callvK, ne_eq, not_false_eq_true, Nat.reduceEqDiff, Bool.not_false, List.map_cons, List.map_nil, List.nil_append, List.append_nil, true_and, and_self, if_true, decide_true, Int.toNat_natCast, Nat.mul_one, h1, h8, q4, h10, hi0, q2', q3]
      refine empty49_c s u _ ?_
      have x1 : ¬ ((((⟨#[]⟩ : ByteArray).size + (⟨#[10]⟩ : ByteArray).size : Nat) : Int) > IntKind.i64.max) := by decide
      have x2 : (⟨#[]⟩ : ByteArray) ++ (⟨#[10]⟩ : ByteArray) = ⟨#[10]⟩ := by decide
      simp only [vcOps_cons, goL_apply, upd_same, upd_other, updO_some, ev_tmp, ev_const, insVc, loadV_some, sopK, sopV, ne_eq, not_false_eq_true, Nat.reduceEqDiff, List.map_cons, List.map_nil, if_false, x1, x2, h5]
      refine wstr_c w.heap.size w.heap.size (List.replicate i 10) ⟨#[10]⟩ u _ hB (by rw [List.length_replicate]; show i + 1 ≤ _; omega) hmu.size ?_
      intro u' hmu' hB'
      simp only [vc_ops, vcOps_nil, vcOps_cons, goL_apply, thenQ_normal, blockQ_normal, upd_same, upd_other, updO_some, ev_tmp, ev_const, insVc, loadV_some, iopK, iopV, ne_eq, not_false_eq_true, Nat.reduceEqDiff, reduceCtorEq, true_and, or_false, h1, h5, h8, h9, h10, hwr]
      refine ⟨l.length - (i + 1), by omega, i + 1, by omega, rfl, ?_⟩
      simp only [true_and, q4]
      refine ⟨hmu.then hmu' (fun k hk hk' => by omega), ?_⟩
      rw [List.replicate_succ']; exact hB'
    · intro hc
      have hge : i = l.length := by have := of_decide_eq_false hc; omega
      subst hge
      simp only [vc_seq, vc_exit, vc_ops, vcOps_cons, thenQ_normal, thenQ_exit, blockQ_same, upd_other, ev_tmp, insVc, ne_eq, not_false_eq_true, Nat.reduceEqDiff, List.map_cons, List.map_nil, h5]
      refine bstring_c w.heap.size w.heap.size _ u _ hB hmu.size ?_
      intro u' hmu'
      simp only [vc_ret, vcOps_nil, vcOps_cons, goL_apply, thenQ_normal, upd_same, updO_some, ev_tmp, endQ_ret, endK, resK, packed, insVc, List.nil_append]
      exact h u' (hmu.then hmu' (fun k hk hk' => by omega))

end Go.Oct

namespace Go.Oct
open Go Go.Vc Go.VrA Go.VrB
set_option maxRecDepth 100000

/-! ### ReportRows -/

theorem repeatL_one (n : Nat) : Lib.repeatL [10] n = List.replicate n 10 := by
  induction n with
  | zero => rfl
  | succ n ih =>
    show [10] ++ Lib.repeatL [10] n = _
    rw [ih, List.replicate_succ]; rfl

theorem repeat_c (n : Nat) (hn : n ≤ 100) (w : World) (K : Value → World → Prop) (h : ∀ w', Mod (fun _ => False) w w' → K (.string ⟨(List.replicate n 10).toArray⟩) w') : Ok Proofs.Tryz.prog 42 #[.string ⟨#[10]⟩, .int .i64 n] w K := by
  refine ok_of_calls (by kernel_rfl) (Go.Proofs.Tryz.strings_Repeat ⟨#[10]⟩ n w (by omega) (by show 1 * n ≤ _; omega)) ?_
  rintro e w' ⟨rfl, hlo⟩
  refine ⟨_, rfl, ?_⟩
  have e : Lib.repeatL (⟨#[10]⟩ : ByteArray).data.toList n = List.replicate n 10 := repeatL_one n
  rw [e]
  exact h w' (Mod.of_below hlo)

theorem rows_c (l : List ByteArray) (ns : List Value) (v vn : Value) (m : Int) (w : World) (K : Value → World → Prop) (hg : Gl m w) (hv : IsSlc w v (l.map .string)) (hvn : IsSlc w vn ns) (h : ∀ w', Mod (fun _ => False) w w' → K (.bool true) w') :
    Ok Proofs.Tryz.prog 8 #[v, vn] w K := by
  have hv0 := hv
  have hvn0 := hvn
  obtain ⟨⟨a0, c0, hva⟩, hrd⟩ := hv
  obtain ⟨⟨a1, c1, hvb⟩, _⟩ := hvn
  rw [List.length_map] at hva
  subst hva
  subst hvb
  refine F8.enter (args := [.slice a0 l.length c0, .slice a1 ns.length c1]) (by simp) ?_
  unfold c8 r8
  simp only [vc_seq, vc_ops, vcOps_nil, vcOps_cons, goL_apply, thenQ_normal, updO_some, ev_const, insVc, List.map_nil]
  refine awake29_c m w _ hg ?_
  intro w1 hm1
  by_cases h1 : ¬ l.length ≤ 100
  · have x1 : ((l.length : Nat) : Int) > 100 := by omega
    simp only [vc_skip, vc_seq, vc_cond, vc_ret, vc_ops, vcOps_nil, vcOps_cons, vcOps_gate, gateK_false, gate_false, goL_apply, thenQ_normal, thenQ_ret, condP_true, condP_false, upd_same, upd_other, updO_some, ev_tmp, ev_const, endQ_ret, endK, resK, packed, initE_at, insVc, pickK, loadV_some, iopK, iopV, notK, lenLK, ne_eq, not_false_eq_true, Nat.reduceEqDiff, reduceCtorEq, Bool.not_true, Option.getD_some, List.getElem?_cons_zero, List.nil_append, true_and, or_false, if_true, decide_true, x1]
    exact h w1 hm1
  replace h1 : l.length ≤ 100 := by omega
  have x1 : ¬ ((l.length : Nat) : Int) > 100 := by omega
  by_cases h2 : ¬ ns.length ≤ 100
  · have x2 : ((ns.length : Nat) : Int) > 100 := by omega
    simp only [vc_skip, vc_seq, vc_cond, vc_ret, vc_ops, vcOps_nil, vcOps_cons, vcOps_gate, gateK_true, gate_false, goL_apply, thenQ_normal, thenQ_ret, condP_true, condP_false, upd_same, upd_other, updO_some, ev_tmp, ev_const, endQ_ret, endK, resK, packed, initE_at, insVc, pickK, loadV_some, iopK, iopV, notK, lenLK, ne_eq, not_false_eq_true, Nat.reduceEqDiff, reduceCtorEq, Bool.not_true, Bool.not_false, Option.getD_some, List.getElem?_cons_zero, List.getElem?_cons_succ, List.nil_append, true_and, or_false, if_false, Bool.false_eq_true, decide_true, decide_false, x1, x2]
    exact h w1 hm1
  replace h2 : ns.length ≤ 100 := by omega
  have x2 : ¬ ((ns.length : Nat) : Int) > 100 := by omega
  simp only [vc_skip, vc_seq, vc_cond, vc_block, vc_ops, vcOps_nil, vcOps_cons, vcOps_gate, gateK_true, gate_false, goL_apply, thenQ_normal, condP_false, upd_same, upd_other, updO_some, ev_tmp, ev_const, initE_at, insVc, pickK, loadV_some, iopK, iopV, notK, lenLK, ne_eq, not_false_eq_true, Nat.reduceEqDiff, reduceCtorEq, Bool.not_true, Bool.not_false, Option.getD_some, List.getElem?_cons_zero, List.getElem?_cons_succ, true_and, or_false, if_false, Bool.false_eq_true, decide_false, x1, x2]
  refine vc_loop (fun mm ρ ds u => ∃ i, i ≤ l.length ∧ mm = l.length - i ∧ ds = [] ∧ ρ 0 = .slice a0 l.length c0 ∧ ρ 1 = .slice a1 ns.length c1 ∧ ρ 5 = .string ⟨(linesL (l.take i)).toArray⟩ ∧ ρ 18 = .slice a0 l.length c0 ∧ ρ 19 = .int .i64 l.length ∧ ρ 20 = .int .i64 i ∧
    Mod (fun _ => False) w u ∧ (linesL (l.take i)).length ≤ i * 303 ∧ ∀ s ∈ l.take i, s.size ≤ 300) (l.length - 0) ?_ ?_
  · refine ⟨0, Nat.zero_le _, rfl, rfl, ?_, ?_, ?_, ?_, ?_, ?_, hm1, by simp [linesL], by simp⟩ <;> simp only [upd_same, upd_other, initE_at, ne_eq, not_false_eq_true, Nat.reduceEqDiff, reduceCtorEq, Option.getD_some, List.getElem?_cons_zero, List.getElem?_cons_succ, List.take_zero]
    · simp [linesL]
    · rfl
  · rintro mm ρ ds u ⟨i, hi, rfl, rfl, r0, r1, r5, r18, r19, r20, hmu, hlen, hall⟩
    simp only [vc_seq, vc_cond, vc_ops, vcOps_nil, vcOps_cons, goL_apply, thenQ_normal, upd_same, updO_some, ev_tmp, insVc, loadV_some, iopK, iopV, reduceCtorEq, true_and, or_false, r19, r20]
    refine condP_split ?_ ?_
    · intro hc
      have hlt : i < l.length := by have := of_decide_eq_true hc; omega
      obtain ⟨s, hsi⟩ : ∃ s, l[i]? = some s := ⟨l[i], List.getElem?_eq_getElem hlt⟩
      obtain ⟨b, o, c, cur, t, f, q1, q2, q3⟩ := hrd i (.string s) (by simp [hsi])
      obtain ⟨q4, _, q5⟩ := Value.slice.inj q1
      have q2' := hmu.keep q2 id
      have htk : l.take (i + 1) = l.take i ++ [s] := by rw [List.take_add_one, hsi]; rfl
      have hln : linesL (l.take (i + 1)) = linesL (l.take i) ++ (lineL s ++ [10]) := by rw [htk]; simp [linesL]
      have hi0 : (0 : Int) ≤ (i : Int) ∧ (i : Int) < ((l.length : Nat) : Int) := by omega
      have hwr : IntKind.i64.wrap ((i : Int) + 1) = ((i + 1 : Nat) : Int) := by rw [wrap_i64 _ (by omega)]; omega
      by_cases hs : ¬ s.size ≤ 300
      · have x3 : ((s.size : Nat) : Int) > 300 := by omega
        simp only [vc_skip, vc_seq, vc_cond, vc_block, vc_ret, vc_ops, vcOps_nil, vcOps_cons, goL_apply, thenQ_normal, thenQ_ret, blockQ_ret, condP_true, upd_same, upd_other, updO_some, ev_tmp, ev_const, endQ_ret, endK, resK, packed, insVc, load1K, loadO_cells, loadV_some, iopK, iopV, iaddrK, lenSK, ne_eq, not_false_eq_true, Nat.reduceEqDiff, reduceCtorEq, List.nil_append, true_and, or_false, and_self, decide_true, Int.toNat_natCast, Nat.mul_one, r18, q4, r20, hi0, q2', q3, x3]
        exact h u hmu
      replace hs : s.size ≤ 300 := by omega
      have x3 : ¬ ((s.size : Nat) : Int) > 300 := by omega
      have z1 : (⟨#[60]⟩ : ByteArray).size = 1 := rfl
      have z2 : (⟨#[62, 10]⟩ : ByteArray).size = 2 := rfl
      have y1 : ¬ ((((⟨#[60]⟩ : ByteArray).size + s.size : Nat) : Int) > IntKind.i64.max) := by simp only [z1, imax]; omega
      have y2 : ¬ (((((⟨#[60]⟩ : ByteArray) ++ s).size + (⟨#[62, 10]⟩ : ByteArray).size : Nat) : Int) > IntKind.i64.max) := by simp only [ByteArray.size_append, z1, z2, imax]; omega
      have hls : (⟨(linesL (l.take i)).toArray⟩ : ByteArray).size = (linesL (l.take i)).length := by simp [ByteArray.size]
      have y3 : ¬ (((((⟨(linesL (l.take i)).toArray⟩ : ByteArray)).size + ((⟨#[60]⟩ : ByteArray) ++ s ++ (⟨#[62, 10]⟩ : ByteArray)).size : Nat) : Int) > IntKind.i64.max) := by
        rw [hls]
        simp only [ByteArray.size_append, z1, z2, imax]; omega
      have y4 : (⟨(linesL (l.take i)).toArray⟩ : ByteArray) ++ ((⟨#[60]⟩ : ByteArray) ++ s ++ (⟨#[62, 10]⟩ : ByteArray)) = ⟨(linesL (l.take (i + 1))).toArray⟩ := by
        apply ByteArray.ext
        apply Array.ext'
        rw [hln]
        simp [lineL, ByteArray.data_append]
      have hsd : s.data.toList.length = s.size := rfl
      simp only [vc_skip, vc_seq, vc_cond, vc_block, vc_ops, vcOps_nil, vcOps_cons, goL_apply, thenQ_normal, blockQ_normal, condP_false, upd_same, upd_other, updO_some, ev_tmp, ev_const, insVc, load1K, loadO_cells, loadV_some, iopK, iopV, sopK, sopV, iaddrK, lenSK, ne_eq, not_false_eq_true, Nat.reduceEqDiff, reduceCtorEq, true_and, or_false, and_self, if_false, decide_true, decide_false, Int.toNat_natCast, Nat.mul_one, r5, r18, q4, r20, hi0, q2', q3, x3, y1, y2, y3, y4, hwr]
      refine ⟨l.length - (i + 1), by omega, i + 1, by omega, rfl, ?_⟩
      simp only [true_and, r0, r1, r19, q4]
      refine ⟨hmu, ?_, ?_⟩
      · rw [hln]
        simp only [List.length_append, lineL, List.length_cons, List.length_nil]; omega
      · intro x hx
        rw [htk] at hx
        rcases List.mem_append.1 hx with hx | hx
        · exact hall x hx
        · rw [List.mem_singleton.1 hx]; exact hs
    · intro hc
      have hge : i = l.length := by have := of_decide_eq_false hc; omega
      subst hge
      rw [List.take_length] at hall r5
      simp only [vc_seq, vc_exit, vc_ops, vcOps_cons, goL_apply, thenQ_normal, thenQ_exit, blockQ_same, upd_same, upd_other, updO_some, ev_tmp, ev_func, insVc, ne_eq, not_false_eq_true, reduceCtorEq, List.map_cons, List.map_nil, r0]
      refine lines46_c l _ u _ (hv0.keep hmu) h1 hall ?_
      intro w2 hm2
      have e1 : ((⟨(linesL l).toArray⟩ : ByteArray).toList == (⟨(linesL l).toArray⟩ : ByteArray).toList) = true := by simp
      have hm02 := hmu.trans hm2
      simp only [vcOps_cons, vcOps_gate, gateK_true, gate_true, goL_apply, upd_same, upd_other, updO_some, ev_tmp, ev_const, insVc, loadV_some, sopK, sopV, ne_eq, not_false_eq_true, Nat.reduceEqDiff, List.map_cons, List.map_nil, r1, r5, e1]
      refine lines48_nil_c ns _ w2 _ (hvn0.keep hm02) h2 ?_
      intro w3 hm3
      have hm03 := hm02.trans hm3
      have e2 : ((⟨#[]⟩ : ByteArray).toList == (⟨#[]⟩ : ByteArray).toList) = true := by simp
      simp only [vcOps_cons, vcOps_gate, gateK_true, gate_true, goL_apply, upd_same, upd_other, updO_some, ev_tmp, ev_const, ev_func, insVc, pickK, loadV_some, sopK, sopV, ne_eq, not_false_eq_true, Nat.reduceEqDiff, List.map_cons, List.map_nil, if_true, r1, e2]
      refine lines48_c ns _ w3 _ (hvn0.keep hm03) h2 ?_
      intro w4 hm4
      have hm04 := hm03.trans hm4
      simp only [vcOps_gate, gateK_true, gate_true, goL_apply, upd_same, upd_other, updO_some, ev_tmp, ev_const, insVc, lenLK, ne_eq, not_false_eq_true, Nat.reduceEqDiff, List.map_cons, List.map_nil, r1]
      refine repeat_c ns.length h2 w4 _ ?_
      intro w5 hm5
      have e3 : ((⟨(List.replicate ns.length 10).toArray⟩ : ByteArray).toList == (⟨(List.replicate ns.length 10).toArray⟩ : ByteArray).toList) = true := by simp
      simp only [vc_ret, vcOps_nil, vcOps_cons, vcOps_gate, gateK_true, gate_true, goL_apply, thenQ_normal, upd_same, upd_other, updO_some, ev_tmp, ev_const, endQ_ret, endK, resK, packed, insVc, pickK, loadV_some, sopK, sopV, ne_eq, not_false_eq_true, Nat.reduceEqDiff, List.nil_append, if_true, e3]
      exact h w5 (hm04.trans hm5)

end Go.Oct
