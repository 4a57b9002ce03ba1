import Derived.Test.YtnpfllldeoiadaaGreatDoorVpI
import Derived.Test.YtnpfllldeoiadaaGreatDoorVrD
import Derived.Test.YtnpfllldeoiadaaGreatDoorVcT
import Derived.Test.YtnpfllldeoiadaaGreatDoorVsRep
import Derived.Test.YtnpfllldeoiadaaGreatDoorVtE
import Derived.Lib.ItoaMem
import Derived.Laws.IdiomStrings
import Derived.Test.YtnpfllldeoiadaaGreatDoorVoE
set_option linter.unusedSimpArgs false
set_option linter.unusedVariables false
set_option linter.unusedSectionVars false
set_option linter.unnecessarySimpa false
namespace Go.Oct
open Go Go.Vc Go.VrA Go.VrB Go.VrD
set_option maxRecDepth 100000

/-! ### decimals -/

def Tab (w : World) : Prop := Lib.TabIs Proofs.Tryz.prog w "internal/strconv.uint64pow10" .u64 Lib.pow10Tab
theorem Tab.mod {w w' : World} (h : Tab w) (hm : Mod (fun _ => False) w w') : Tab w' := by
  unfold Tab Lib.TabIs World.var? at *
  cases hg : Proofs.Tryz.prog.globalNamed "internal/strconv.uint64pow10" with
  | none => rw [hg] at h; cases h
  | some g =>
    rw [hg] at h
    simp only [Option.bind_some] at h ⊢
    cases hb : w.heap[g]? with
    | none => rw [hb] at h; cases h
    | some o =>
      rw [hb] at h
      rw [hm.keep hb id]
      exact h

abbrev encB : UInt8 → Value := fun (b : UInt8) => Value.int .u8 (b.toNat : Int)
theorem mod_putRow (w : World) (o : Obj) (off k : Nat) (dk : Array UInt8) : Vc.Mod (fun _ => False) w ((Go.Sort.putRow encB (w.alloc o) w.heap.size off dk).drewN k) := by
  have h1 : Vc.Mod (fun _ => False) w (w.alloc o) := (Mod.refl _ _).alloc _
  refine h1.then (T := fun j => j = w.heap.size) ⟨rfl, rfl, rfl, ?_, ?_⟩ (fun i hi e => by omega)
  · simp [Go.Sort.putRow, Go.Sort.mapBlock, World.drewN]
  · intro i _ hne
    show ((w.alloc o).heap.modify w.heap.size _)[i]? = _
    rw [Array.getElem?_modify, if_neg (fun e => hne e.symm)]
theorem holds_zero0 (w : World) (t : TypeId) (nd : Nat) (hs : nd ≤ 24) : Go.Sort.Holds encB (w.alloc (.cells Lib.zeros24 t)) w.heap.size 0 (Array.replicate nd (0 : UInt8)) := fun j hj => by
  have hj' : j < nd := by simpa using hj
  refine ⟨?_, World.frozen?_alloc_new _ _ _ _⟩
  rw [World.cell?_alloc_new, Lib.zeros24_at _ (by omega), getElem!_pos _ j hj]
  simp

theorem fuint_c (n : Nat) (hn : n < 2 ^ 64) (w : World) (K : Value → World → Prop) (ht : Tab w) (h : ∀ w', Mod (fun _ => False) w w' → K (.string ⟨(Lib.decDigits n).toArray⟩) w') :
    Ok Proofs.Tryz.prog 48 #[.int .u64 n, .int .i64 10] w K := by
  refine F48.enter (args := [.int .u64 n, .int .i64 10]) (by simp) ?_
  unfold c48 r48
  simp only [vc_seq, vc_ops, vcOps_nil, vcOps_cons, goL_apply, thenQ_normal, upd_same, upd_other, updO_some, ev_tmp, ev_const, initE_at, insVc, ne_eq, not_false_eq_true, Nat.reduceEqDiff, reduceCtorEq, Option.getD_some, List.map_cons, List.map_nil, List.getElem?_cons_zero, List.getElem?_cons_succ]
  refine F58.enter (args := [.int .u64 n, .int .i64 10]) (by simp) ?_
  unfold c58 r58
  have h3 : ((10 : Int) == 10) = true := rfl
  by_cases hs : n < 100
  · have h1 : ((n : Nat) : Int) < 100 := by omega
    have h2 : IntKind.i64.wrap (n : Int) = n := wrap_i64 _ (by omega)
    simp only [vc_seq, vc_cond, vc_ops, vcOps_nil, vcOps_cons, goL_apply, thenQ_normal, condP_true, upd_same, upd_other, updO_some, ev_tmp, ev_const, initE_at, insVc, loadV_some, iopK, iopV, convK, ne_eq, not_false_eq_true, Nat.reduceEqDiff, reduceCtorEq, Option.getD_some, List.map_cons, List.map_nil, List.getElem?_cons_zero, List.getElem?_cons_succ, true_and, or_false, decide_true, h1, h2, h3]
    refine ok_of_calls (by kernel_rfl) (Go.Proofs.Tryz.internal_strconv_small n hs w) ?_
    rintro e w' ⟨rfl, rfl⟩
    refine ⟨_, rfl, ?_⟩
    simp only [vc_ret, vcOps_nil, vcOps_cons, goL_apply, thenQ_normal, thenQ_ret, upd_same, updO_some, ev_tmp, endQ_ret, endK, resK, packed, insVc, List.nil_append]
    exact h _ (Mod.refl _ _)
  · have h1 : ¬ ((n : Nat) : Int) < 100 := by omega
    have hnd : Lib.nDigits n ≤ 20 := Lib.nDigits_le20 n hn
    simp only [vc_skip, vc_seq, vc_cond, vc_ops, vcOps_nil, vcOps_cons, goL_apply, thenQ_normal, condP_true, condP_false, upd_same, upd_other, updO_some, ev_tmp, ev_const, initE_at, insVc, loadV_some, iopK, iopV, Value.cells, ne_eq, not_false_eq_true, Nat.reduceEqDiff, reduceCtorEq, Option.getD_some, List.map_cons, List.map_nil, List.getElem?_cons_zero, List.getElem?_cons_succ, true_and, or_false, decide_false, h1, h3]
    refine ok_of_calls (by kernel_rfl) (Go.Proofs.Tryz.internal_strconv_numDigits n (by omega) hn _ (ht.mod ((Mod.refl _ _).alloc _))) ?_
    rintro e w' ⟨rfl, rfl⟩
    refine ⟨_, rfl, ?_⟩
    have e24 : ((0 : Int) ≤ ((0 : Nat) : Int) ∧ ((0 : Nat) : Int) ≤ ((Lib.nDigits n : Nat) : Int) ∧ ((Lib.nDigits n : Nat) : Int) ≤ ((24 : Nat) : Int)) := by omega
    have ne24 : ¬ (24 = (((0 : Nat) : Int)).toNat) := by decide
    simp only [vc_seq, vc_ops, vcOps_nil, vcOps_cons, goL_apply, thenQ_normal, upd_same, upd_other, updO_some, ev_tmp, initE_at, insVc, boundOf, slAK, ne_eq, not_false_eq_true, Nat.reduceEqDiff, reduceCtorEq, Option.map_some, Option.map_none, Option.getD_some, List.map_cons, List.map_nil, List.getElem?_cons_zero, true_and, and_self, if_false, Int.toNat_natCast, Nat.mul_one, Nat.sub_zero, e24]
    have hH := holds_zero0 w 132 (Lib.nDigits n) (by omega)
    have hsl : (if 24 = 0 then (⟨w.heap.size, 0, none⟩ : Addr) else Addr.add ⟨w.heap.size, 0, none⟩ 0) = ⟨w.heap.size, 0, none⟩ := by rw [if_neg (by decide)]; rfl
    have hfmt := Go.Proofs.Tryz.internal_strconv_formatBase10 w.heap.size 0 24 n (Array.replicate (Lib.nDigits n) 0) _ hH (by rw [Array.size_replicate]; exact Lib.lt_pow_nDigits n) hn (by rw [Array.size_replicate]; omega)
    rw [Array.size_replicate] at hfmt
    refine ok_of_calls (by kernel_rfl) hfmt ?_
    rintro e w' ⟨rfl, k, v', dk, rfl, hF⟩
    refine ⟨_, rfl, ?_⟩
    simp only [vc_seq, vc_ops, vcOps_nil, vcOps_cons, goL_apply, thenQ_normal, upd_same, upd_other, updO_some, ev_tmp, insVc, boundOf, slAK, ne_eq, not_false_eq_true, Nat.reduceEqDiff, reduceCtorEq, Option.map_some, Option.map_none, true_and, and_self, if_false, Int.toNat_natCast, Nat.mul_one, Nat.sub_zero, e24]
    have hcv : (convert 79 9 (.slice (some ⟨w.heap.size, 0, none⟩) (Lib.nDigits n) 24)).run Proofs.Tryz.prog ((Go.Sort.putRow encB (w.alloc (.cells Lib.zeros24 132)) w.heap.size 0 dk).drewN k) = .ok (.string ⟨(Lib.decDigits n).toArray⟩) ((Go.Sort.putRow encB (w.alloc (.cells Lib.zeros24 132)) w.heap.size 0 dk).drewN k) := by
      have h := run_convert_bytes_back (P := Proofs.Tryz.prog) ((Go.Sort.putRow encB (w.alloc (.cells Lib.zeros24 132)) w.heap.size 0 dk).drewN k) 79 9 5 ⟨w.heap.size, 0, none⟩ 24 (Lib.decDigits n) (by kernel_rfl) (by kernel_rfl) (by kernel_rfl) (fun j hj => by
        rw [Lib.row_is_numeral hF j hj, Lib.add_plain, World.cell?_drewN]
        exact Go.Sort.cell?_putRow encB _ w.heap.size 0 _ dk hH (by rw [hF.size, Array.size_replicate]) j (by rw [hF.size]; rw [Lib.decDigits_length] at hj; exact hj))
      rw [Lib.decDigits_length] at h
      exact h
    refine rawK_conv rfl rfl hcv ?_
    simp only [vc_ret, vcOps_nil, vcOps_cons, goL_apply, thenQ_normal, thenQ_ret, upd_same, updO_some, ev_tmp, endQ_ret, endK, resK, packed, insVc, List.nil_append]
    exact h _ (mod_putRow _ _ _ _ _)

theorem num64_c (n : Nat) (hn : n < 2 ^ 64) (w : World) (K : Value → World → Prop) (ht : Tab w) (h : ∀ w', Mod (fun _ => False) w w' → K (.string ⟨(Lib.decDigits n).toArray⟩) w') : Ok Proofs.Tryz.prog 26 #[.int .u64 n] w K := by
  refine F26.enter (args := [.int .u64 n]) (by simp) ?_
  unfold c26 r26
  simp only [vc_seq, vc_ops, vcOps_nil, vcOps_cons, goL_apply, thenQ_normal, upd_same, upd_other, updO_some, ev_tmp, ev_const, initE_at, insVc, ne_eq, not_false_eq_true, reduceCtorEq, Option.getD_some, List.map_cons, List.map_nil, List.getElem?_cons_zero]
  refine fuint_c n hn w _ ht ?_
  intro w' hm
  simp only [vc_ret, vcOps_nil, vcOps_cons, goL_apply, thenQ_normal, upd_same, updO_some, ev_tmp, endQ_ret, endK, resK, packed, insVc, List.nil_append]
  exact h w' hm

theorem num32_c (n : Nat) (hn : n < 2 ^ 32) (w : World) (K : Value → World → Prop) (ht : Tab w) (h : ∀ w', Mod (fun _ => False) w w' → K (.string ⟨(Lib.decDigits n).toArray⟩) w') : Ok Proofs.Tryz.prog 25 #[.int .u32 n] w K := by
  refine F25.enter (args := [.int .u32 n]) (by simp) ?_
  unfold c25 r25
  simp only [vc_seq, vc_ops, vcOps_nil, vcOps_cons, goL_apply, thenQ_normal, upd_same, upd_other, updO_some, ev_tmp, ev_const, initE_at, insVc, convK, ne_eq, not_false_eq_true, reduceCtorEq, Option.getD_some, List.map_cons, List.map_nil, List.getElem?_cons_zero, wrap_u64 n (by omega)]
  refine fuint_c n (by omega) w _ ht ?_
  intro w' hm
  simp only [vc_ret, vcOps_nil, vcOps_cons, goL_apply, thenQ_normal, upd_same, updO_some, ev_tmp, endQ_ret, endK, resK, packed, insVc, List.nil_append]
  exact h w' hm

theorem numi_c (n : Nat) (hn : n < 2 ^ 63) (w : World) (K : Value → World → Prop) (ht : Tab w) (h : ∀ w', Mod (fun _ => False) w w' → K (.string ⟨(Lib.decDigits n).toArray⟩) w') : Ok Proofs.Tryz.prog 29 #[.int .i64 n] w K := by
  refine F29.enter (args := [.int .i64 n]) (by simp) ?_
  unfold c29 r29
  simp only [vc_seq, vc_ops, vcOps_nil, vcOps_cons, goL_apply, thenQ_normal, upd_same, upd_other, updO_some, ev_tmp, ev_const, initE_at, insVc, convK, ne_eq, not_false_eq_true, reduceCtorEq, Option.getD_some, List.map_cons, List.map_nil, List.getElem?_cons_zero, wrap_u64 n (by omega)]
  refine fuint_c n (by omega) w _ ht ?_
  intro w' hm
  simp only [vc_ret, vcOps_nil, vcOps_cons, goL_apply, thenQ_normal, upd_same, updO_some, ev_tmp, endQ_ret, endK, resK, packed, insVc, List.nil_append]
  exact h w' hm

theorem mod_grow (w : World) (k : Nat) (os : Array Obj) : Vc.Mod (fun _ => False) w (Go.Sort.grow (w.drewN k) os) :=
  ⟨rfl, rfl, rfl, by simp [Go.Sort.grow, World.drewN], fun i hi _ => by
    show (w.heap ++ os)[i]? = _
    rw [Array.getElem?_append_left hi]⟩

theorem itoa_c (n : Int) (hn : -9223372036854775808 ≤ n ∧ n ≤ 9223372036854775807) (w : World) (K : Value → World → Prop) (ht : Tab w) (h : ∀ w', Mod (fun _ => False) w w' → K (.string ⟨(Lib.itoa n).toArray⟩) w') : Ok Proofs.Tryz.prog 30 #[.int .i64 n] w K := by
  refine ok_of_calls (by kernel_rfl) (Go.Proofs.Tryz.strconv_Itoa n hn.1 hn.2 w ht) ?_
  rintro e w' ⟨rfl, k, os, rfl⟩
  exact ⟨_, rfl, h _ (mod_grow _ _ _)⟩

theorem rawK_neg {go : Value → World → Prop} {ρ : Env} {ds : List Deferred} {n : Nat} {o : Oper} {w : World} {x : Operand} {t : TypeId} {k : IntKind} {z : Int} (ho : o.op = .unOp .neg t x) (hx : inB n x = true) (hv : ev ρ x = .int k z) (h : go (.int k (k.wrap (-z))) w) : RawK Proofs.Tryz.prog go ρ ds n o w := by
  unfold RawK
  have e : (0 : Int) - z = -z := by omega
  simp only [execOp, ho, mkA_eval n ρ ds x hx, hv, Op.unary, Op.intArith, Sem.run_bind, pure, Sem.run, Result.andThen, e]
  exact h

/-- the reference's decimals. -/
theorem rdec_c (n : Nat) (hn : n < 2 ^ 64) (w : World) (K : Value → World → Prop) (h : ∀ w', Mod (fun _ => False) w w' → K (.string ⟨(Lib.decDigits n).toArray⟩) w') : Ok Proofs.Tryz.prog 28 #[.int .u64 n] w K := by
  refine F28.enter (args := [.int .u64 n]) (by simp) ?_
  unfold c28 r28
  simp only [vc_seq, vc_block, vc_ops, vcOps_nil, vcOps_cons, goL_apply, thenQ_normal, updO_some, ev_const, insVc]
  refine vc_loop (fun mm ρ ds u => ∃ (m : Nat) (tl : List UInt8), mm = m ∧ m < 2 ^ 64 ∧ ds = [] ∧ ρ 0 = .int .u64 m ∧ ρ 3 = .string ⟨tl.toArray⟩ ∧ Lib.decDigits n = Lib.decDigits m ++ tl ∧ Mod (fun _ => False) w u) n ?_ ?_
  · exact ⟨n, [], rfl, hn, rfl, by simp only [upd_other, initE_at, ne_eq, not_false_eq_true, reduceCtorEq, Option.getD_some, List.getElem?_cons_zero], by simp only [upd_same], by simp, Mod.refl _ _⟩
  · rintro m ρ ds u ⟨_, tl, rfl, hm, rfl, h0, h3, he, hmu⟩
    have a1 : (m : Int).tmod 10 = ((m % 10 : Nat) : Int) := by
      show ((m : Nat) : Int).tmod ((10 : Nat) : Int) = _
      rw [← Int.ofNat_tmod]
    have a2 : IntKind.u64.wrap (48 + ((m % 10 : Nat) : Int)) = ((48 + m % 10 : Nat) : Int) := by rw [IntKind.wrap_u64]; omega
    have a3 : IntKind.u8.wrap ((48 + m % 10 : Nat) : Int) = ((UInt8.ofNat (48 + m % 10)).toNat : Int) := by rw [wrap_u8]; simp
    have a4 : (m : Int).tdiv 10 = ((m / 10 : Nat) : Int) := by
      show ((m : Nat) : Int).tdiv ((10 : Nat) : Int) = _
      rw [← Int.ofNat_tdiv]
    have a5 : IntKind.u64.wrap ((m / 10 : Nat) : Int) = ((m / 10 : Nat) : Int) := wrap_u64 _ (by omega)
    simp only [vc_seq, vc_block, vc_ops, vcOps_cons, goL_apply, upd_same, updO_some, ev_tmp, ev_const, insVc, loadV_some, iopK, iopV, convK, fillL, buildSK, Value.cells, Nat.reduceLeDiff, reduceCtorEq, List.size_toArray, List.length_cons, List.length_nil, List.zipIdx_cons, List.zipIdx_nil, List.foldl_cons, List.foldl_nil, List.setIfInBounds_toArray, List.set_cons_zero, List.toList_toArray, true_and, or_false, and_self, if_true, if_false, Nat.zero_add, Int.reduceEq, h0, a1, a2, a3]
    have hcv : (convert 79 9 (.slice (some ⟨u.heap.size, 0, none⟩) 1 1)).run Proofs.Tryz.prog (u.alloc (.cells #[.int .u8 ((UInt8.ofNat (48 + m % 10)).toNat : Int)] 5)) = .ok (.string ⟨[UInt8.ofNat (48 + m % 10)].toArray⟩) (u.alloc (.cells #[.int .u8 ((UInt8.ofNat (48 + m % 10)).toNat : Int)] 5)) := by
      refine run_convert_bytes_back (P := Proofs.Tryz.prog) _ 79 9 5 ⟨u.heap.size, 0, none⟩ 1 [UInt8.ofNat (48 + m % 10)] (by kernel_rfl) (by kernel_rfl) (by kernel_rfl) (fun j hj => ?_)
      have hj0 : j = 0 := by simpa using hj
      subst hj0
      rw [Lib.add_plain, World.cell?_alloc_new]; rfl
    refine rawK_conv rfl rfl hcv ?_
    have hlen : 1 + tl.length ≤ 9223372036854775807 := by
      have h1 := dec_len n hn
      have h2 : (Lib.decDigits n).length = (Lib.decDigits m).length + tl.length := by rw [he, List.length_append]
      omega
    have hmu' := hmu.alloc (.cells #[.int .u8 ((UInt8.ofNat (48 + m % 10)).toNat : Int)] 5)
    have hrec := dec_rec m
    by_cases h10 : m < 10
    · have a6 : (((m / 10 : Nat) : Int) == 0) = true := by
        have : m / 10 = 0 := by omega
        rw [this]; rfl
      rw [if_pos h10] at hrec
      have hfin : [UInt8.ofNat (48 + m % 10)] ++ tl = Lib.decDigits n := by
        rw [he, hrec]
        have : m % 10 = m := by omega
        rw [this]
      simp only [vc_seq, vc_cond, vc_ret, vc_ops, vcOps_nil, vcOps_cons, goL_apply, thenQ_normal, thenQ_ret, blockQ_ret, condP_true, upd_same, upd_other, updO_some, ev_tmp, ev_const, endQ_ret, endK, resK, packed, insVc, loadV_some, iopK, iopV, ne_eq, not_false_eq_true, Nat.reduceEqDiff, reduceCtorEq, List.length_cons, List.length_nil, List.nil_append, List.cons_append, true_and, or_false, if_false, Nat.zero_add, Int.reduceEq, sopK_add, h0, h3, a4, a5, a6]
      rw [← List.singleton_append, hfin]
      exact ⟨hlen, h _ hmu'⟩
    · have a6 : (((m / 10 : Nat) : Int) == 0) = false := by rw [beq_eq_false_iff_ne]; omega
      rw [if_neg h10] at hrec
      simp only [vc_skip, vc_seq, vc_cond, vc_ops, vcOps_nil, vcOps_cons, goL_apply, thenQ_normal, blockQ_normal, condP_false, upd_same, upd_other, updO_some, ev_tmp, ev_const, insVc, loadV_some, iopK, iopV, ne_eq, not_false_eq_true, Nat.reduceEqDiff, reduceCtorEq, List.length_cons, List.length_nil, List.nil_append, List.cons_append, true_and, or_false, if_false, Nat.zero_add, Int.reduceEq, sopK_add, h0, h3, a4, a5, a6]
      refine ⟨hlen, m / 10, by omega, m / 10, UInt8.ofNat (48 + m % 10) :: tl, rfl, by omega, rfl, rfl, ?_, hmu'⟩
      rw [he, hrec]; simp

theorem rsigned_c (n : Int) (hn : i64ok n) (w : World) (K : Value → World → Prop) (h : ∀ w', Mod (fun _ => False) w w' → K (.string ⟨(Lib.itoa n).toArray⟩) w') : Ok Proofs.Tryz.prog 32 #[.int .i64 n] w K := by
  refine F32.enter (args := [.int .i64 n]) (by simp) ?_
  unfold c32 r32
  by_cases hneg : n < 0
  · simp only [vc_seq, vc_cond, vc_ops, vcOps_nil, vcOps_cons, goL_apply, thenQ_normal, condP_true, upd_same, upd_other, updO_some, ev_tmp, ev_const, initE_at, insVc, loadV_some, iopK, iopV, ne_eq, not_false_eq_true, reduceCtorEq, Option.getD_some, List.getElem?_cons_zero, true_and, or_false, decide_true, hneg]
    obtain ⟨k, rfl⟩ : ∃ k : Nat, n = -(((k + 1 : Nat) : Int)) := ⟨(-n).toNat - 1, by omega⟩
    have hk : k < 2 ^ 63 := by have := hn.1; omega
    have b1 : IntKind.i64.wrap (-(((k + 1 : Nat) : Int)) + 1) = -((k : Nat) : Int) := by rw [wrap_i64 _ (by omega)]; omega
    simp only [b1]
    refine rawK_neg (k := .i64) (z := -((k : Nat) : Int)) rfl rfl rfl ?_
    have b2 : IntKind.i64.wrap (-(-((k : Nat) : Int))) = (k : Nat) := by rw [wrap_i64 _ (by omega)]; omega
    have b3 : IntKind.u64.wrap (((k : Nat) : Int) + 1) = ((k + 1 : Nat) : Int) := by rw [IntKind.wrap_u64]; omega
    simp only [vcOps_cons, goL_apply, upd_same, updO_some, ev_tmp, ev_const, insVc, loadV_some, iopK, iopV, convK, reduceCtorEq, List.map_cons, List.map_nil, true_and, or_false, b2, b3, wrap_u64 k (by omega)]
    refine rdec_c (k + 1) (by omega) w _ ?_
    intro w' hm
    have hl := dec_len (k + 1) (by omega)
    simp only [vc_ret, vcOps_nil, vcOps_cons, goL_apply, thenQ_normal, thenQ_ret, upd_same, updO_some, ev_tmp, ev_const, endQ_ret, endK, resK, packed, insVc, List.length_cons, List.length_nil, List.nil_append, List.cons_append, Nat.zero_add, sopK_add]
    rw [Lib.itoa_neg (k + 1) (by omega)] at h
    exact ⟨by omega, h w' hm⟩
  · obtain ⟨k, rfl⟩ : ∃ k : Nat, n = k := ⟨n.toNat, by omega⟩
    have hk : k < 2 ^ 63 := by have := hn.2; omega
    simp only [vc_skip, vc_seq, vc_cond, vc_ops, vcOps_nil, vcOps_cons, goL_apply, thenQ_normal, condP_false, upd_same, upd_other, updO_some, ev_tmp, ev_const, initE_at, insVc, loadV_some, iopK, iopV, convK, ne_eq, not_false_eq_true, reduceCtorEq, Option.getD_some, List.map_cons, List.map_nil, List.getElem?_cons_zero, true_and, or_false, decide_false, hneg, wrap_u64 k (by omega)]
    refine rdec_c k (by omega) w _ ?_
    intro w' hm
    simp only [vc_ret, vcOps_nil, vcOps_cons, goL_apply, thenQ_normal, upd_same, updO_some, ev_tmp, endQ_ret, endK, resK, packed, insVc, List.nil_append]
    rw [Lib.itoa_nonneg] at h
    exact h w' hm
end Go.Oct

namespace Go.Oct
open Go Go.Vc Go.VrA Go.VrB Go.VrD
set_option maxRecDepth 100000

/-! ### quotes -/

theorem quoteB_eq (c : UInt8) : quoteB c = if c.toNat = 34 ∨ c.toNat = 92 then [92, c] else if c.toNat = 10 then [92, 110] else if c.toNat < 32 ∨ 126 < c.toNat then [92, 120, hexT.getD (c.toNat / 16) 0, hexT.getD (c.toNat % 16) 0] else [c] := by
  have e : ∀ d : UInt8, (c = d) = (c.toNat = d.toNat) := fun d => propext UInt8.toNat_inj.symm
  unfold quoteB
  simp only [e, UInt8.lt_iff_toNat_lt]
  rfl
theorem hex_at (k : Nat) (h : k < 16) : ([48, 49, 50, 51, 52, 53, 54, 55, 56, 57, 97, 98, 99, 100, 101, 102] : List UInt8)[k]? = some (hexT.getD k 0) := by
  have : k < hexT.length := h
  show hexT[k]? = _
  rw [List.getD, List.getElem?_eq_getElem this]; rfl
theorem and15_fin : ∀ n : Fin 256, IntKind.u8.wrap ((BitVec.ofInt IntKind.u8.bits (n.val : Int) &&& BitVec.ofInt IntKind.u8.bits 15).toNat : Int) = ((n.val % 16 : Nat) : Int) := by decide +kernel
theorem and15 (c : UInt8) : IntKind.u8.wrap ((BitVec.ofInt IntKind.u8.bits (c.toNat : Int) &&& BitVec.ofInt IntKind.u8.bits 15).toNat : Int) = ((c.toNat % 16 : Nat) : Int) := and15_fin ⟨c.toNat, c.toNat_lt⟩

theorem quote_c (s : ByteArray) (hs : s.size < 2 ^ 40) (w : World) (K : Value → World → Prop) (h : ∀ w', Mod (fun _ => False) w w' → K (.string ⟨(quoteL s.data.toList).toArray⟩) w') : Ok Proofs.Tryz.prog 24 #[.string s] w K := by
  refine F24.enter (args := [.string s]) (by simp) ?_
  unfold c24 r24
  simp only [vc_seq, vc_ops, vcOps_nil, vcOps_cons, goL_apply, thenQ_normal, upd_same, updO_some, ev_tmp, ev_const, insVc, Value.cells, List.map_cons, List.map_nil]
  refine callK_gen ?_
  intro w1 hw1
  have hm1 : Mod (fun _ => False) w w1 := by rw [hw1]; exact (Mod.refl _ _).alloc _
  have hB1 : IsB w1 w.heap.size w.heap.size [] := isB_fresh w1 _ (by rw [hw1]; exact get_alloc_new _ _)
  clear hw1
  refine wbyte_c w.heap.size w.heap.size [] 34 w1 _ hB1 (by simp) hm1.size ?_
  intro w2 hm2 hB2
  have hm02 : Mod (fun _ => False) w w2 := hm1.then hm2 (fun k hk hk' => by omega)
  simp only [vc_seq, vc_block, vc_ops, vcOps_nil, vcOps_cons, goL_apply, thenQ_normal, upd_same, upd_other, updO_some, ev_tmp, ev_const, initE_at, insVc, lenSK, ne_eq, not_false_eq_true, reduceCtorEq, Option.getD_some, List.getElem?_cons_zero]
  have hsl : s.data.toList.length = s.size := rfl
  refine vc_loop (fun mm ρ ds u => ∃ i, i ≤ s.size ∧ mm = s.size - i ∧ ds = [] ∧ ρ 0 = .string s ∧ ρ 3 = ptr w.heap.size ∧ ρ 8 = .int .i64 s.size ∧ ρ 9 = .int .i64 i ∧
    Mod (fun _ => False) w u ∧ IsB u w.heap.size w.heap.size (34 :: (s.data.toList.take i).flatMap quoteB)) s.size ?_ ?_
  · refine ⟨0, Nat.zero_le _, rfl, rfl, ?_, ?_, ?_, ?_, hm02, hB2⟩ <;> simp only [upd_same, upd_other, initE_at, ne_eq, not_false_eq_true, Nat.reduceEqDiff, reduceCtorEq, Option.getD_some, List.getElem?_cons_zero]
    rfl
  · rintro mm ρ ds u ⟨i, hi, rfl, rfl, h0, h3, h8, h9, hmu, hB⟩
    have hfl := quoteF_len (s.data.toList.take i)
    rw [List.length_take, hsl, Nat.min_eq_left hi] at hfl
    by_cases hlt : i < s.size
    · have d1 : (i : Int) < ((s.size : Nat) : Int) := by omega
      obtain ⟨c, hc⟩ : ∃ c, s.data[i]? = some c := ⟨s.data[i], Array.getElem?_eq_getElem hlt⟩
      have hcl : s.data.toList[i]? = some c := by rw [Array.getElem?_toList]; exact hc
      have hi0 : (0 : Int) ≤ (i : Int) := by omega
      have hw1 : IntKind.i64.wrap ((i : Int) + 1) = ((i + 1 : Nat) : Int) := by rw [wrap_i64 _ (by omega)]; omega
      have htk : (34 :: (s.data.toList.take (i + 1)).flatMap quoteB : List UInt8) = (34 :: (s.data.toList.take i).flatMap quoteB) ++ quoteB c := by
        rw [List.take_add_one, hcl]; simp
      have hqc := quoteB_eq c
      have fin : ∀ (u' : World), Mod (fun k => w.heap.size ≤ k) u u' → IsB u' w.heap.size w.heap.size ((34 :: (s.data.toList.take i).flatMap quoteB) ++ quoteB c) →
          ∃ m', m' < s.size - i ∧ ∃ j, j ≤ s.size ∧ m' = s.size - j ∧ Value.int .i64 ((i + 1 : Nat) : Int) = .int .i64 j ∧ Mod (fun _ => False) w u' ∧ IsB u' w.heap.size w.heap.size (34 :: (s.data.toList.take j).flatMap quoteB) := by
        intro u' hm' hb'
        exact ⟨s.size - (i + 1), by omega, i + 1, by omega, rfl, rfl, hmu.then hm' (fun k hk hk' => by omega), by rw [htk]; exact hb'⟩
      have hlen4 : (34 :: (s.data.toList.take i).flatMap quoteB : List UInt8).length + 4 ≤ 140737488355328 := by rw [List.length_cons]; omega
      have hn256 : c.toNat < 256 := c.toNat_lt
      by_cases c1 : c.toNat = 34 ∨ c.toNat = 92
      · rw [if_pos c1] at hqc
        rw [hqc] at fin
        by_cases h34 : c.toNat = 34
        · have q1 : (((c.toNat : Nat) : Int) == 34) = true := by rw [h34]; rfl
          simp only [vc_skip, vc_seq, vc_cond, vc_block, vc_ops, vcOps_nil, vcOps_cons, vcOps_gate, gateK_false, gate_false, goL_apply, thenQ_normal, condP_true, upd_same, upd_other, updO_some, ev_tmp, ev_const, insVc, pickK, loadV_some, iopK, iopV, sidxK, ne_eq, not_false_eq_true, Nat.reduceEqDiff, reduceCtorEq, Bool.not_true, Option.map_some, List.map_cons, List.map_nil, true_and, or_false, if_true, decide_true, Int.toNat_natCast, h0, h3, h8, h9, d1, hc, hi0, q1]
          refine wbyte_c w.heap.size w.heap.size _ 92 u _ hB (by omega) hmu.size ?_
          intro u1 hmu1 hB1'
          simp only [vc_ops, vcOps_nil, vcOps_cons, goL_apply, thenQ_normal, upd_same, upd_other, updO_some, ev_tmp, insVc, ne_eq, not_false_eq_true, Nat.reduceEqDiff, List.map_cons, List.map_nil, h3]
          refine wbyte_c w.heap.size w.heap.size _ c u1 _ hB1' (by simp only [List.length_append, List.length_cons, List.length_nil]; omega) (Nat.le_trans hmu.size hmu1.size) ?_
          intro u2 hmu2 hB2'
          simp only [vc_ops, vcOps_nil, vcOps_cons, goL_apply, thenQ_normal, blockQ_normal, upd_same, upd_other, updO_some, ev_tmp, ev_const, insVc, loadV_some, iopK, iopV, ne_eq, not_false_eq_true, Nat.reduceEqDiff, reduceCtorEq, true_and, or_false, h0, h3, h8, h9, hw1]
          exact fin u2 (hmu1.trans hmu2) (by simpa using hB2')
        · have q1 : (((c.toNat : Nat) : Int) == 34) = false := by rw [beq_eq_false_iff_ne]; omega
          have q2 : (((c.toNat : Nat) : Int) == 92) = true := by rw [c1.resolve_left h34]; rfl
          simp only [vc_skip, vc_seq, vc_cond, vc_block, vc_ops, vcOps_nil, vcOps_cons, vcOps_gate, gateK_true, gate_false, goL_apply, thenQ_normal, condP_true, upd_same, upd_other, updO_some, ev_tmp, ev_const, insVc, pickK, loadV_some, iopK, iopV, sidxK, ne_eq, not_false_eq_true, Nat.reduceEqDiff, reduceCtorEq, Bool.not_false, Option.map_some, List.map_cons, List.map_nil, true_and, or_false, if_false, Bool.false_eq_true, decide_true, Int.toNat_natCast, h0, h3, h8, h9, d1, hc, hi0, q1, q2]
          refine wbyte_c w.heap.size w.heap.size _ 92 u _ hB (by omega) hmu.size ?_
          intro u1 hmu1 hB1'
          simp only [vc_ops, vcOps_nil, vcOps_cons, goL_apply, thenQ_normal, upd_same, upd_other, updO_some, ev_tmp, insVc, ne_eq, not_false_eq_true, Nat.reduceEqDiff, List.map_cons, List.map_nil, h3]
          refine wbyte_c w.heap.size w.heap.size _ c u1 _ hB1' (by simp only [List.length_append, List.length_cons, List.length_nil]; omega) (Nat.le_trans hmu.size hmu1.size) ?_
          intro u2 hmu2 hB2'
          simp only [vc_ops, vcOps_nil, vcOps_cons, goL_apply, thenQ_normal, blockQ_normal, upd_same, upd_other, updO_some, ev_tmp, ev_const, insVc, loadV_some, iopK, iopV, ne_eq, not_false_eq_true, Nat.reduceEqDiff, reduceCtorEq, true_and, or_false, h0, h3, h8, h9, hw1]
          exact fin u2 (hmu1.trans hmu2) (by simpa using hB2')
      · rw [if_neg c1] at hqc
        have q1 : (((c.toNat : Nat) : Int) == 34) = false := by rw [beq_eq_false_iff_ne]; omega
        have q2 : (((c.toNat : Nat) : Int) == 92) = false := by rw [beq_eq_false_iff_ne]; omega
        by_cases c2 : c.toNat = 10
        · rw [if_pos c2] at hqc
          rw [hqc] at fin
          have q3 : (((c.toNat : Nat) : Int) == 10) = true := by rw [c2]; rfl
          simp only [vc_skip, vc_seq, vc_cond, vc_block, vc_ops, vcOps_nil, vcOps_cons, vcOps_gate, gateK_true, gate_false, goL_apply, thenQ_normal, condP_true, condP_false, upd_same, upd_other, updO_some, ev_tmp, ev_const, insVc, pickK, loadV_some, iopK, iopV, sidxK, ne_eq, not_false_eq_true, Nat.reduceEqDiff, reduceCtorEq, Bool.not_false, Option.map_some, List.map_cons, List.map_nil, true_and, or_false, if_false, Bool.false_eq_true, decide_true, Int.toNat_natCast, h0, h3, h8, h9, d1, hc, hi0, q1, q2, q3]
          refine wstr_c w.heap.size w.heap.size _ ⟨#[92, 110]⟩ u _ hB (by show _ + 2 ≤ _; omega) hmu.size ?_
          intro u1 hmu1 hB1'
          simp only [vc_ops, vcOps_nil, vcOps_cons, goL_apply, thenQ_normal, blockQ_normal, upd_same, upd_other, updO_some, ev_tmp, ev_const, insVc, loadV_some, iopK, iopV, ne_eq, not_false_eq_true, Nat.reduceEqDiff, reduceCtorEq, true_and, or_false, h0, h3, h8, h9, hw1]
          exact fin u1 hmu1 (by simpa using hB1')
        · rw [if_neg c2] at hqc
          have q3 : (((c.toNat : Nat) : Int) == 10) = false := by rw [beq_eq_false_iff_ne]; omega
          by_cases c3 : c.toNat < 32 ∨ 126 < c.toNat
          · rw [if_pos c3] at hqc
            rw [hqc] at fin
            have hsh : ((c.toNat : Nat) : Int).fdiv (2 ^ 4) = ((c.toNat / 16 : Nat) : Int) := by
              rw [Int.fdiv_eq_ediv_of_nonneg _ (by decide)]; omega
            have hx1 := hex_at (c.toNat / 16) (by omega)
            have hx2 := hex_at (c.toNat % 16) (by omega)
            have hp1 : (0 : Int) ≤ ((c.toNat / 16 : Nat) : Int) := by omega
            have hp2 : (0 : Int) ≤ ((c.toNat % 16 : Nat) : Int) := by omega
            have hmin : min 4 IntKind.u8.bits = 4 := rfl
            by_cases c4 : c.toNat < 32
            · have q4 : ((c.toNat : Nat) : Int) < 32 := by omega
              simp only [vc_skip, vc_seq, vc_cond, vc_block, vc_ops, vcOps_nil, vcOps_cons, vcOps_gate, gateK_true, gateK_false, gate_false, goL_apply, thenQ_normal, condP_true, condP_false, upd_same, upd_other, updO_some, ev_tmp, ev_const, insVc, pickK, loadV_some, iopK, iopV, sidxK, ne_eq, not_false_eq_true, Nat.reduceEqDiff, reduceCtorEq, Bool.not_true, Bool.not_false, Option.map_some, List.map_cons, List.map_nil, true_and, or_false, if_true, if_false, Bool.false_eq_true, decide_true, Int.toNat_natCast, h0, h3, h8, h9, d1, hc, hi0, q1, q2, q3, q4]
              refine wstr_c w.heap.size w.heap.size _ ⟨#[92, 120]⟩ u _ hB (by show _ + 2 ≤ _; omega) hmu.size ?_
              intro u1 hmu1 hB1'
              simp only [vc_seq, vc_ops, vcOps_nil, vcOps_cons, goL_apply, thenQ_normal, upd_same, upd_other, updO_some, ev_tmp, ev_const, insVc, loadV_some, iopK, iopV, sidxK, ne_eq, not_false_eq_true, Nat.reduceEqDiff, reduceCtorEq, Option.map_some, List.map_cons, List.map_nil, List.getElem?_toArray, true_and, or_true, if_false, Int.reduceLT, Int.reduceToNat, Int.toNat_natCast, h3, hmin, hsh, hp1, hx1]
              refine wbyte_c w.heap.size w.heap.size _ (hexT.getD (c.toNat / 16) 0) u1 _ hB1' (by rw [List.length_append]; show _ + 2 + 1 ≤ _; omega) (Nat.le_trans hmu.size hmu1.size) ?_
              intro u2 hmu2 hB2'
              simp only [vc_ops, vcOps_nil, vcOps_cons, goL_apply, thenQ_normal, upd_same, upd_other, updO_some, ev_tmp, ev_const, insVc, loadV_some, iopK, iopV, sidxK, ne_eq, not_false_eq_true, Nat.reduceEqDiff, reduceCtorEq, Option.map_some, List.map_cons, List.map_nil, List.getElem?_toArray, true_and, or_false, Int.toNat_natCast, h3, and15, hp2, hx2]
              refine wbyte_c w.heap.size w.heap.size _ (hexT.getD (c.toNat % 16) 0) u2 _ hB2' (by rw [List.length_append, List.length_append]; show _ + 2 + 1 + 1 ≤ _; omega) (Nat.le_trans (Nat.le_trans hmu.size hmu1.size) hmu2.size) ?_
              intro u3 hmu3 hB3'
              simp only [vc_ops, vcOps_nil, vcOps_cons, goL_apply, thenQ_normal, blockQ_normal, upd_same, upd_other, updO_some, ev_tmp, ev_const, insVc, loadV_some, iopK, iopV, ne_eq, not_false_eq_true, Nat.reduceEqDiff, reduceCtorEq, true_and, or_false, h0, h3, h8, h9, hw1]
              exact fin u3 ((hmu1.trans hmu2).trans hmu3) (by simpa using hB3')
            · have q4 : ¬ ((c.toNat : Nat) : Int) < 32 := by omega
              have q5 : ((c.toNat : Nat) : Int) > 126 := by omega
              simp only [vc_skip, vc_seq, vc_cond, vc_block, vc_ops, vcOps_nil, vcOps_cons, vcOps_gate, gateK_true, gate_false, goL_apply, thenQ_normal, condP_true, condP_false, upd_same, upd_other, updO_some, ev_tmp, ev_const, insVc, pickK, loadV_some, iopK, iopV, sidxK, ne_eq, not_false_eq_true, Nat.reduceEqDiff, reduceCtorEq, Bool.not_false, Option.map_some, List.map_cons, List.map_nil, true_and, or_false, if_false, Bool.false_eq_true, decide_true, decide_false, Int.toNat_natCast, h0, h3, h8, h9, d1, hc, hi0, q1, q2, q3, q4, q5]
              refine wstr_c w.heap.size w.heap.size _ ⟨#[92, 120]⟩ u _ hB (by show _ + 2 ≤ _; omega) hmu.size ?_
              intro u1 hmu1 hB1'
              simp only [vc_seq, vc_ops, vcOps_nil, vcOps_cons, goL_apply, thenQ_normal, upd_same, upd_other, updO_some, ev_tmp, ev_const, insVc, loadV_some, iopK, iopV, sidxK, ne_eq, not_false_eq_true, Nat.reduceEqDiff, reduceCtorEq, Option.map_some, List.map_cons, List.map_nil, List.getElem?_toArray, true_and, or_true, if_false, Int.reduceLT, Int.reduceToNat, Int.toNat_natCast, h3, hmin, hsh, hp1, hx1]
              refine wbyte_c w.heap.size w.heap.size _ (hexT.getD (c.toNat / 16) 0) u1 _ hB1' (by rw [List.length_append]; show _ + 2 + 1 ≤ _; omega) (Nat.le_trans hmu.size hmu1.size) ?_
              intro u2 hmu2 hB2'
              simp only [vc_ops, vcOps_nil, vcOps_cons, goL_apply, thenQ_normal, upd_same, upd_other, updO_some, ev_tmp, ev_const, insVc, loadV_some, iopK, iopV, sidxK, ne_eq, not_false_eq_true, Nat.reduceEqDiff, reduceCtorEq, Option.map_some, List.map_cons, List.map_nil, List.getElem?_toArray, true_and, or_false, Int.toNat_natCast, h3, and15, hp2, hx2]
              refine wbyte_c w.heap.size w.heap.size _ (hexT.getD (c.toNat % 16) 0) u2 _ hB2' (by rw [List.length_append, List.length_append]; show _ + 2 + 1 + 1 ≤ _; omega) (Nat.le_trans (Nat.le_trans hmu.size hmu1.size) hmu2.size) ?_
              intro u3 hmu3 hB3'
              simp only [vc_ops, vcOps_nil, vcOps_cons, goL_apply, thenQ_normal, blockQ_normal, upd_same, upd_other, updO_some, ev_tmp, ev_const, insVc, loadV_some, iopK, iopV, ne_eq, not_false_eq_true, Nat.reduceEqDiff, reduceCtorEq, true_and, or_false, h0, h3, h8, h9, hw1]
              exact fin u3 ((hmu1.trans hmu2).trans hmu3) (by simpa using hB3')
          · rw [if_neg c3] at hqc
            rw [hqc] at fin
            have q4 : ¬ ((c.toNat : Nat) : Int) < 32 := by omega
            have q5 : ¬ ((c.toNat : Nat) : Int) > 126 := by omega
            simp only [vc_skip, vc_seq, vc_cond, vc_block, vc_ops, vcOps_nil, vcOps_cons, vcOps_gate, gateK_true, gate_false, goL_apply, thenQ_normal, condP_true, condP_false, upd_same, upd_other, updO_some, ev_tmp, ev_const, insVc, pickK, loadV_some, iopK, iopV, sidxK, ne_eq, not_false_eq_true, Nat.reduceEqDiff, reduceCtorEq, Bool.not_false, Option.map_some, List.map_cons, List.map_nil, true_and, or_false, if_false, Bool.false_eq_true, decide_true, decide_false, Int.toNat_natCast, h0, h3, h8, h9, d1, hc, hi0, q1, q2, q3, q4, q5]
            refine wbyte_c w.heap.size w.heap.size _ c u _ hB (by omega) hmu.size ?_
            intro u1 hmu1 hB1'
            simp only [vc_ops, vcOps_nil, vcOps_cons, goL_apply, thenQ_normal, blockQ_normal, upd_same, upd_other, updO_some, ev_tmp, ev_const, insVc, loadV_some, iopK, iopV, ne_eq, not_false_eq_true, Nat.reduceEqDiff, reduceCtorEq, true_and, or_false, h0, h3, h8, h9, hw1]
            exact fin u1 hmu1 (by simpa using hB1')
    · have d1 : ¬ (i : Int) < ((s.size : Nat) : Int) := by omega
      have hie : i = s.size := by omega
      have htl : s.data.toList.take i = s.data.toList := by rw [hie, ← hsl, List.take_length]
      rw [htl] at hB hfl
      simp only [vc_seq, vc_cond, vc_exit, vc_ops, vcOps_nil, vcOps_cons, goL_apply, thenQ_normal, thenQ_exit, blockQ_same, condP_false, upd_same, upd_other, updO_some, ev_tmp, ev_const, insVc, loadV_some, iopK, iopV, ne_eq, not_false_eq_true, Nat.reduceEqDiff, reduceCtorEq, List.map_cons, List.map_nil, true_and, or_false, decide_false, h3, h8, h9, d1]
      refine wbyte_c w.heap.size w.heap.size _ 34 u _ hB (by rw [List.length_cons]; omega) hmu.size ?_
      intro u1 hmu1 hB1'
      simp only [vc_seq, vc_ops, vcOps_nil, vcOps_cons, goL_apply, thenQ_normal, upd_other, updO_some, ev_tmp, insVc, ne_eq, not_false_eq_true, Nat.reduceEqDiff, List.map_cons, List.map_nil, h3]
      refine bstring_c w.heap.size w.heap.size _ u1 _ hB1' (Nat.le_trans hmu.size hmu1.size) ?_
      intro u2 hmu2
      simp only [vc_ret, vcOps_nil, vcOps_cons, goL_apply, thenQ_normal, upd_same, updO_some, ev_tmp, endQ_ret, endK, resK, packed, insVc, List.nil_append, List.cons_append]
      exact h u2 (hmu.then (hmu1.trans hmu2) (fun k hk hk' => by omega))
end Go.Oct

namespace Go.Oct
open Go Go.Vc Go.VrA Go.VrB Go.VrD
set_option maxRecDepth 100000

/-! ### appends of things of one cell; the reference's quotes; rows of numbers -/

theorem append_1 {t e : TypeId} {z : Value} {bts : Nat} (ht : Proofs.Tryz.prog.underlying t = some (.slice e)) (hinfo : (Proofs.Tryz.prog.info? e).map (fun i => (i.zero, i.size, i.bytes)) = some (some z, 1, bts)) (hz : z.cells.size = 1) (hb16 : bts ≤ 16)
    (B : Nat) (v : Value) (n : Nat) (xs ys : List Value) (w : World) (hown : w.ownsRow B e 1 v n xs) (hB : B ≤ w.heap.size) (hl : n + ys.length < 2 ^ 40) (h1 : ∀ u ∈ ys, u.oneCell' = true) (ty : TypeId) :
    ∃ v' w', (Builtin.append_ #[t, t] ty #[v, .slice (some ⟨w.heap.size, 0, none⟩) ys.length ys.length]).run Proofs.Tryz.prog (w.alloc (.cells ys.toArray e)) = .ok v' w' ∧
      w'.ownsRow B e 1 v' (n + ys.length) (xs ++ ys) ∧ Mod (fun k => B ≤ k) w w' := by
  obtain ⟨i, hi, hi1, hi2⟩ := info_of hinfo
  have hm1 : Mod (fun _ => False) w (w.alloc (.cells ys.toArray e)) := (Mod.refl _ _).alloc _
  have hown1 := own_keep' hown hm1 (fun _ _ x => x)
  have hsrc : Src Proofs.Tryz.prog 1 t (.slice (some ⟨w.heap.size, 0, none⟩) ys.length ys.length) ys.length ys (w.alloc (.cells ys.toArray e)) := by
    refine Src.ofSlice _ (e' := e) ht ⟨w.heap.size, 0, none⟩ ys.length ys.length _ (by simp) ?_ h1
    intro j u hj
    have hgn := get_alloc_new w (.cells ys.toArray e)
    simp only [World.cell?, Addr.add_lit, Nat.zero_add, hgn, List.getElem?_toArray]
    exact hj
  have hbb : (n + ys.length) * i.bytes ≤ 140737488355328 := by
    rw [hi2.2]
    have : (n + ys.length) * bts ≤ (n + ys.length) * 16 := Nat.mul_le_mul_left _ hb16
    omega
  obtain ⟨v', w', hr, ho, hm, hb⟩ := run_append_mine (P := Proofs.Tryz.prog) B t t ty e i z 1 ht hi hi1 hi2.1 hz (by decide) v n _ hown1 _ ys.length _ hsrc (by simp only [maxLen]; omega) hbb (Nat.le_trans hB hm1.size)
  exact ⟨v', w', hr, ho, (hm1.mono fun _ _ x => x.elim).then hm (fun k _ hk => (World.ownsRow.lt hown1 k hk).1)⟩

theorem info_u8 : (Proofs.Tryz.prog.info? 5).map (fun i => (i.zero, i.size, i.bytes)) = some (some (.int .u8 0), 1, 1) := by kernel_rfl
theorem info_u64 : (Proofs.Tryz.prog.info? 23).map (fun i => (i.zero, i.size, i.bytes)) = some (some (.int .u64 0), 1, 8) := by kernel_rfl

def bC (l : List UInt8) : List Value := l.map fun b => Value.int .u8 (b.toNat : Int)
theorem bC_len (l : List UInt8) : (bC l).length = l.length := by simp [bC]
theorem append_u8 (B : Nat) (v : Value) (l ys : List UInt8) (w : World) (hown : w.ownsRow B 5 1 v l.length (bC l)) (hB : B ≤ w.heap.size) (hl : l.length + ys.length < 2 ^ 40) (ty : TypeId) :
    ∃ v' w', (Builtin.append_ #[79, 79] ty #[v, .slice (some ⟨w.heap.size, 0, none⟩) ys.length ys.length]).run Proofs.Tryz.prog (w.alloc (.cells (bC ys).toArray 5)) = .ok v' w' ∧
      w'.ownsRow B 5 1 v' (l ++ ys).length (bC (l ++ ys)) ∧ Mod (fun k => B ≤ k) w w' := by
  have := append_1 (t := 79) (by kernel_rfl) info_u8 rfl (by decide) B v l.length (bC l) (bC ys) w hown hB (by rw [bC_len]; exact hl) (by
    intro u hu
    obtain ⟨b, _, rfl⟩ := List.mem_map.1 hu
    rfl) ty
  rw [bC_len] at this
  simpa [bC] using this

theorem conv_own (B : Nat) (v : Value) (l : List UInt8) (w : World) (hown : w.ownsRow B 5 1 v l.length (bC l)) (h0 : l ≠ []) : (convert 79 9 v).run Proofs.Tryz.prog w = .ok (.string ⟨l.toArray⟩) w := by
  rcases hown.2 with ⟨_, hn⟩ | ⟨g, cap, cur, rfl, _, hg, hn, _, hcs, htk⟩
  · exact absurd (List.length_eq_zero_iff.1 hn) h0
  · refine run_convert_bytes_back (P := Proofs.Tryz.prog) w 79 9 5 ⟨g, 0, none⟩ cap l (by kernel_rfl) (by kernel_rfl) (by kernel_rfl) (fun j hj => ?_)
    have h1 : (cur.toList.take (l.length * 1))[j]? = (bC l)[j]? := by rw [htk]
    rw [List.getElem?_take, if_pos (by omega), Array.getElem?_toList] at h1
    simp only [World.cell?, Addr.add_lit, Nat.zero_add, hg]
    rw [h1]
    simp [bC, hj]

theorem rquote_c (s : ByteArray) (hs : s.size < 2 ^ 37) (w : World) (K : Value → World → Prop) (h : ∀ w', Mod (fun _ => False) w w' → K (.string ⟨(quoteL s.data.toList).toArray⟩) w') : Ok Proofs.Tryz.prog 27 #[.string s] w K := by
  refine F27.enter (args := [.string s]) (by simp) ?_
  unfold c27 r27
  have hsl : s.data.toList.length = s.size := rfl
  have own0 : (w.alloc (.cells #[.int .u8 34] 5)).ownsRow w.heap.size 5 1 (.slice (some ⟨w.heap.size, 0, none⟩) 1 1) [(34 : UInt8)].length (bC [34]) :=
    ⟨rfl, .inr ⟨w.heap.size, 1, _, rfl, Nat.le_refl _, get_alloc_new _ _, Nat.le_refl _, by simp [maxLen], rfl, rfl⟩⟩
  simp only [vc_seq, vc_block, vc_ops, vcOps_nil, vcOps_cons, goL_apply, thenQ_normal, upd_same, updO_some, ev_tmp, ev_const, insVc, fillL, buildSK, Value.cells, Nat.reduceLeDiff, List.size_toArray, List.length_cons, List.length_nil, List.zipIdx_cons, List.zipIdx_nil, List.foldl_cons, List.foldl_nil, List.setIfInBounds_toArray, List.set_cons_zero, List.toList_toArray, and_self, if_true, Nat.zero_add]
  refine vc_loop (fun mm ρ ds u => ∃ i v, i ≤ s.size ∧ mm = s.size - i ∧ ds = [] ∧ ρ 0 = .string s ∧ ρ 3 = v ∧ ρ 4 = .int .i64 i ∧
    Mod (fun _ => False) w u ∧ u.ownsRow w.heap.size 5 1 v (34 :: (s.data.toList.take i).flatMap quoteB).length (bC (34 :: (s.data.toList.take i).flatMap quoteB))) s.size ?_ ?_
  · refine ⟨0, _, Nat.zero_le _, rfl, rfl, ?_, rfl, ?_, (Mod.refl _ _).alloc _, ?_⟩
    · simp only [upd_other, initE_at, ne_eq, not_false_eq_true, reduceCtorEq, Option.getD_some, List.getElem?_cons_zero]
    · simp only [upd_same]; rfl
    · simp only [upd_same, upd_other, ne_eq, not_false_eq_true, Nat.reduceEqDiff, List.length_cons, List.take_zero]; exact own0
  · rintro mm ρ ds u ⟨i, v, hi, rfl, rfl, h0, h3, h4, hmu, hO⟩
    have hfl := quoteF_len (s.data.toList.take i)
    rw [List.length_take, hsl, Nat.min_eq_left hi] at hfl
    by_cases hlt : i < s.size
    · have d1 : (i : Int) < ((s.size : Nat) : Int) := by omega
      obtain ⟨c, hc⟩ : ∃ c, s.data[i]? = some c := ⟨s.data[i], Array.getElem?_eq_getElem hlt⟩
      have hcl : s.data.toList[i]? = some c := by rw [Array.getElem?_toList]; exact hc
      have hi0 : (0 : Int) ≤ (i : Int) := by omega
      have hw1 : IntKind.i64.wrap ((i : Int) + 1) = ((i + 1 : Nat) : Int) := by rw [wrap_i64 _ (by omega)]; omega
      have htk : (34 :: (s.data.toList.take (i + 1)).flatMap quoteB : List UInt8) = (34 :: (s.data.toList.take i).flatMap quoteB) ++ quoteB c := by
        rw [List.take_add_one, hcl]; simp
      have hqc := quoteB_eq c
      have hq4 := quoteB_len c
      have hn256 : c.toNat < 256 := c.toNat_lt
      obtain ⟨v', u', hr, hO', hmu'⟩ := append_u8 w.heap.size v (34 :: (s.data.toList.take i).flatMap quoteB) (quoteB c) u hO hmu.size (by rw [List.length_cons]; omega) 79
      rw [← htk] at hO'
      have fin : ∃ m', m' < s.size - i ∧ ∃ (j : Nat) (v1 : Value), j ≤ s.size ∧ m' = s.size - j ∧ v' = v1 ∧ Value.int .i64 ((i + 1 : Nat) : Int) = .int .i64 j ∧ Mod (fun _ => False) w u' ∧ u'.ownsRow w.heap.size 5 1 v1 (((s.data.toList.take j).flatMap quoteB).length + 1) (bC (34 :: (s.data.toList.take j).flatMap quoteB)) :=
        ⟨s.size - (i + 1), by omega, i + 1, _, by omega, rfl, rfl, rfl, hmu.then hmu' (fun k hk hk' => by omega), hO'⟩
      by_cases c1 : c.toNat = 34 ∨ c.toNat = 92
      · rw [if_pos c1] at hqc
        rw [hqc] at hr
        by_cases h34 : c.toNat = 34
        · have q1 : (((c.toNat : Nat) : Int) == 34) = true := by rw [h34]; rfl
          simp only [vc_skip, vc_seq, vc_cond, vc_block, vc_ops, vcOps_nil, vcOps_cons, vcOps_gate, gateK_false, gate_false, goL_apply, thenQ_normal, condP_true, upd_same, upd_other, updO_some, ev_tmp, ev_const, insVc, pickK, loadV_some, iopK, iopV, sidxK, lenSK, fillL, buildSK, Value.cells, ne_eq, not_false_eq_true, Nat.reduceEqDiff, Nat.reduceAdd, Nat.reduceLeDiff, reduceCtorEq, Bool.not_true, Option.map_some, List.size_toArray, List.length_cons, List.length_nil, List.zipIdx_cons, List.zipIdx_nil, List.foldl_cons, List.foldl_nil, List.setIfInBounds_toArray, List.set_cons_zero, List.set_cons_succ, List.toList_toArray, true_and, or_false, and_self, if_true, Nat.zero_add, Nat.add_zero, decide_true, Int.toNat_natCast, h0, h3, h4, d1, hc, hi0, q1]
          refine rawK_append rfl rfl rfl hr ?_
          simp only [vc_ops, vcOps_nil, vcOps_cons, goL_apply, thenQ_normal, blockQ_normal, upd_same, upd_other, updO_some, ev_tmp, ev_const, insVc, loadV_some, iopK, iopV, ne_eq, not_false_eq_true, Nat.reduceEqDiff, reduceCtorEq, true_and, or_false, h0, h4, hw1]
          exact fin
        · have q1 : (((c.toNat : Nat) : Int) == 34) = false := by rw [beq_eq_false_iff_ne]; omega
          have q2 : (((c.toNat : Nat) : Int) == 92) = true := by rw [c1.resolve_left h34]; rfl
          simp only [vc_skip, vc_seq, vc_cond, vc_block, vc_ops, vcOps_nil, vcOps_cons, vcOps_gate, gateK_true, gate_false, goL_apply, thenQ_normal, condP_true, upd_same, upd_other, updO_some, ev_tmp, ev_const, insVc, pickK, loadV_some, iopK, iopV, sidxK, lenSK, fillL, buildSK, Value.cells, ne_eq, not_false_eq_true, Nat.reduceEqDiff, Nat.reduceAdd, Nat.reduceLeDiff, reduceCtorEq, Bool.not_false, Option.map_some, List.size_toArray, List.length_cons, List.length_nil, List.zipIdx_cons, List.zipIdx_nil, List.foldl_cons, List.foldl_nil, List.setIfInBounds_toArray, List.set_cons_zero, List.set_cons_succ, List.toList_toArray, true_and, or_false, and_self, if_true, if_false, Bool.false_eq_true, Nat.zero_add, Nat.add_zero, decide_true, Int.toNat_natCast, h0, h3, h4, d1, hc, hi0, q1, q2]
          refine rawK_append rfl rfl rfl hr ?_
          simp only [vc_ops, vcOps_nil, vcOps_cons, goL_apply, thenQ_normal, blockQ_normal, upd_same, upd_other, updO_some, ev_tmp, ev_const, insVc, loadV_some, iopK, iopV, ne_eq, not_false_eq_true, Nat.reduceEqDiff, reduceCtorEq, true_and, or_false, h0, h4, hw1]
          exact fin
      · rw [if_neg c1] at hqc
        have q1 : (((c.toNat : Nat) : Int) == 34) = false := by rw [beq_eq_false_iff_ne]; omega
        have q2 : (((c.toNat : Nat) : Int) == 92) = false := by rw [beq_eq_false_iff_ne]; omega
        by_cases c2 : c.toNat = 10
        · rw [if_pos c2] at hqc
          rw [hqc] at hr
          have q3 : (((c.toNat : Nat) : Int) == 10) = true := by rw [c2]; rfl
          simp only [vc_skip, vc_seq, vc_cond, vc_block, vc_ops, vcOps_nil, vcOps_cons, vcOps_gate, gateK_true, gate_false, goL_apply, thenQ_normal, condP_true, condP_false, upd_same, upd_other, updO_some, ev_tmp, ev_const, insVc, pickK, loadV_some, iopK, iopV, sidxK, lenSK, fillL, buildSK, Value.cells, ne_eq, not_false_eq_true, Nat.reduceEqDiff, Nat.reduceAdd, Nat.reduceLeDiff, reduceCtorEq, Bool.not_false, Option.map_some, List.size_toArray, List.length_cons, List.length_nil, List.zipIdx_cons, List.zipIdx_nil, List.foldl_cons, List.foldl_nil, List.setIfInBounds_toArray, List.set_cons_zero, List.set_cons_succ, List.toList_toArray, true_and, or_false, and_self, if_true, if_false, Bool.false_eq_true, Nat.zero_add, Nat.add_zero, decide_true, Int.toNat_natCast, h0, h3, h4, d1, hc, hi0, q1, q2, q3]
          refine rawK_append rfl rfl rfl hr ?_
          simp only [vc_ops, vcOps_nil, vcOps_cons, goL_apply, thenQ_normal, blockQ_normal, upd_same, upd_other, updO_some, ev_tmp, ev_const, insVc, loadV_some, iopK, iopV, ne_eq, not_false_eq_true, Nat.reduceEqDiff, reduceCtorEq, true_and, or_false, h0, h4, hw1]
          exact fin
        · rw [if_neg c2] at hqc
          have q3 : (((c.toNat : Nat) : Int) == 10) = false := by rw [beq_eq_false_iff_ne]; omega
          by_cases c3 : c.toNat < 32 ∨ 126 < c.toNat
          · rw [if_pos c3] at hqc
            rw [hqc] at hr
            have hx1 := hex_at (c.toNat / 16) (by omega)
            have hx2 := hex_at (c.toNat % 16) (by omega)
            have hp1 : (0 : Int) ≤ ((c.toNat / 16 : Nat) : Int) := by omega
            have hp2 : (0 : Int) ≤ ((c.toNat % 16 : Nat) : Int) := by omega
            have hqu : ((c.toNat : Nat) : Int).tdiv 16 = ((c.toNat / 16 : Nat) : Int) := by
              show ((c.toNat : Nat) : Int).tdiv ((16 : Nat) : Int) = _
              rw [← Int.ofNat_tdiv]
            have hre : ((c.toNat : Nat) : Int).tmod 16 = ((c.toNat % 16 : Nat) : Int) := by
              show ((c.toNat : Nat) : Int).tmod ((16 : Nat) : Int) = _
              rw [← Int.ofNat_tmod]
            have hwq : IntKind.u8.wrap ((c.toNat / 16 : Nat) : Int) = ((c.toNat / 16 : Nat) : Int) := by rw [wrap_u8]; omega
            by_cases c4 : c.toNat < 32
            · have q4 : ((c.toNat : Nat) : Int) < 32 := by omega
              simp only [vc_skip, vc_seq, vc_cond, vc_block, vc_ops, vcOps_nil, vcOps_cons, vcOps_gate, gateK_true, gateK_false, gate_false, goL_apply, thenQ_normal, condP_true, condP_false, upd_same, upd_other, updO_some, ev_tmp, ev_const, insVc, pickK, loadV_some, iopK, iopV, sidxK, lenSK, ne_eq, not_false_eq_true, Nat.reduceEqDiff, reduceCtorEq, Bool.not_true, Bool.not_false, Option.map_some, List.length_cons, true_and, or_false, if_true, if_false, Bool.false_eq_true, decide_true, Int.toNat_natCast, h0, h4, d1, hc, hi0, q1, q2, q3, q4]
              refine draw_d (fun _ => True) (by kernel_rfl) (by kernel_rfl) (by kernel_rfl) (by kernel_rfl) trivial ?_
              simp only [vc_ops, vcOps_nil, vcOps_cons, goL_apply, thenQ_normal, blockQ_normal, upd_same, upd_other, updO_some, ev_tmp, ev_const, insVc, loadV_some, iopK, iopV, sidxK, fillL, buildSK, Value.cells, ne_eq, not_false_eq_true, Nat.reduceEqDiff, Nat.reduceAdd, Nat.reduceLeDiff, reduceCtorEq, Option.map_some, List.getElem?_toArray, List.size_toArray, List.length_cons, List.length_nil, List.zipIdx_cons, List.zipIdx_nil, List.foldl_cons, List.foldl_nil, List.setIfInBounds_toArray, List.set_cons_zero, List.set_cons_succ, List.toList_toArray, true_and, and_true, or_false, and_self, if_true, if_false, Bool.false_eq_true, Nat.zero_add, Nat.add_zero, Int.toNat_natCast, Int.reduceEq, pureI, size_drew, vcD_nil, vcD_cons, stepD_pure, stepD_step, kindI, loadI, h0, h3, h4, hqu, hre, hwq, hp1, hp2, hx1, hx2, hw1]
              obtain ⟨v2, u2, hr2, hO2, hmu2⟩ := append_u8 w.heap.size v (34 :: (s.data.toList.take i).flatMap quoteB) (quoteB c) u.drew hO hmu.size (by rw [List.length_cons]; omega) 79
              rw [← htk] at hO2
              rw [hqc] at hr2
              exact rawK_append rfl rfl rfl hr2 ⟨s.size - (i + 1), by omega, i + 1, _, by omega, rfl, rfl, rfl, hmu.drew.then hmu2 (fun k hk hk' => by omega), hO2⟩
            · have q4 : ¬ ((c.toNat : Nat) : Int) < 32 := by omega
              have q5 : ((c.toNat : Nat) : Int) > 126 := by omega
              simp only [vc_skip, vc_seq, vc_cond, vc_block, vc_ops, vcOps_nil, vcOps_cons, vcOps_gate, gateK_true, gate_false, goL_apply, thenQ_normal, condP_true, condP_false, upd_same, upd_other, updO_some, ev_tmp, ev_const, insVc, pickK, loadV_some, iopK, iopV, sidxK, lenSK, ne_eq, not_false_eq_true, Nat.reduceEqDiff, reduceCtorEq, Bool.not_false, Option.map_some, List.length_cons, true_and, or_false, if_false, Bool.false_eq_true, decide_true, decide_false, Int.toNat_natCast, h0, h4, d1, hc, hi0, q1, q2, q3, q4, q5]
              refine draw_d (fun _ => True) (by kernel_rfl) (by kernel_rfl) (by kernel_rfl) (by kernel_rfl) trivial ?_
              simp only [vc_ops, vcOps_nil, vcOps_cons, goL_apply, thenQ_normal, blockQ_normal, upd_same, upd_other, updO_some, ev_tmp, ev_const, insVc, loadV_some, iopK, iopV, sidxK, fillL, buildSK, Value.cells, ne_eq, not_false_eq_true, Nat.reduceEqDiff, Nat.reduceAdd, Nat.reduceLeDiff, reduceCtorEq, Option.map_some, List.getElem?_toArray, List.size_toArray, List.length_cons, List.length_nil, List.zipIdx_cons, List.zipIdx_nil, List.foldl_cons, List.foldl_nil, List.setIfInBounds_toArray, List.set_cons_zero, List.set_cons_succ, List.toList_toArray, true_and, and_true, or_false, and_self, if_true, if_false, Bool.false_eq_true, Nat.zero_add, Nat.add_zero, Int.toNat_natCast, Int.reduceEq, pureI, size_drew, vcD_nil, vcD_cons, stepD_pure, stepD_step, kindI, loadI, h0, h3, h4, hqu, hre, hwq, hp1, hp2, hx1, hx2, hw1]
              obtain ⟨v2, u2, hr2, hO2, hmu2⟩ := append_u8 w.heap.size v (34 :: (s.data.toList.take i).flatMap quoteB) (quoteB c) u.drew hO hmu.size (by rw [List.length_cons]; omega) 79
              rw [← htk] at hO2
              rw [hqc] at hr2
              exact rawK_append rfl rfl rfl hr2 ⟨s.size - (i + 1), by omega, i + 1, _, by omega, rfl, rfl, rfl, hmu.drew.then hmu2 (fun k hk hk' => by omega), hO2⟩
          · rw [if_neg c3] at hqc
            rw [hqc] at hr
            have q4 : ¬ ((c.toNat : Nat) : Int) < 32 := by omega
            have q5 : ¬ ((c.toNat : Nat) : Int) > 126 := by omega
            simp only [vc_skip, vc_seq, vc_cond, vc_block, vc_ops, vcOps_nil, vcOps_cons, vcOps_gate, gateK_true, gate_false, goL_apply, thenQ_normal, condP_true, condP_false, upd_same, upd_other, updO_some, ev_tmp, ev_const, insVc, pickK, loadV_some, iopK, iopV, sidxK, lenSK, fillL, buildSK, Value.cells, ne_eq, not_false_eq_true, Nat.reduceEqDiff, Nat.reduceLeDiff, reduceCtorEq, Bool.not_false, Option.map_some, List.size_toArray, List.length_cons, List.length_nil, List.zipIdx_cons, List.zipIdx_nil, List.foldl_cons, List.foldl_nil, List.setIfInBounds_toArray, List.set_cons_zero, List.toList_toArray, true_and, or_false, and_self, if_true, if_false, Bool.false_eq_true, Nat.zero_add, decide_true, decide_false, Int.toNat_natCast, h0, h3, h4, d1, hc, hi0, q1, q2, q3, q4, q5]
            refine rawK_append rfl rfl rfl hr ?_
            simp only [vc_ops, vcOps_nil, vcOps_cons, goL_apply, thenQ_normal, blockQ_normal, upd_same, upd_other, updO_some, ev_tmp, ev_const, insVc, loadV_some, iopK, iopV, ne_eq, not_false_eq_true, Nat.reduceEqDiff, reduceCtorEq, true_and, or_false, h0, h4, hw1]
            exact fin
    · have d1 : ¬ (i : Int) < ((s.size : Nat) : Int) := by omega
      have hie : i = s.size := by omega
      have htl : s.data.toList.take i = s.data.toList := by rw [hie, ← hsl, List.take_length]
      rw [htl] at hO hfl
      obtain ⟨v', u', hr, hO', hmu'⟩ := append_u8 w.heap.size v _ [34] u hO hmu.size (by rw [List.length_cons]; simp only [List.length_cons, List.length_nil]; omega) 79
      simp only [vc_seq, vc_cond, vc_exit, vc_ops, vcOps_nil, vcOps_cons, goL_apply, thenQ_normal, thenQ_exit, blockQ_same, condP_false, upd_same, upd_other, updO_some, ev_tmp, ev_const, insVc, loadV_some, iopK, iopV, lenSK, fillL, buildSK, Value.cells, ne_eq, not_false_eq_true, Nat.reduceEqDiff, Nat.reduceLeDiff, reduceCtorEq, List.size_toArray, List.length_cons, List.length_nil, List.zipIdx_cons, List.zipIdx_nil, List.foldl_cons, List.foldl_nil, List.setIfInBounds_toArray, List.set_cons_zero, List.toList_toArray, true_and, or_false, and_self, if_true, Nat.zero_add, decide_false, h0, h3, h4, d1]
      refine rawK_append rfl rfl rfl hr ?_
      simp only [vcOps_cons, goL_apply, updO_some, insVc]
      refine rawK_conv rfl rfl (conv_own _ _ _ _ hO' (by simp)) ?_
      simp only [vc_ret, vcOps_nil, vcOps_cons, goL_apply, thenQ_normal, upd_same, updO_some, ev_tmp, endQ_ret, endK, resK, packed, insVc, List.nil_append, List.cons_append]
      exact h u' (hmu.then hmu' (fun k hk hk' => by omega))
end Go.Oct
