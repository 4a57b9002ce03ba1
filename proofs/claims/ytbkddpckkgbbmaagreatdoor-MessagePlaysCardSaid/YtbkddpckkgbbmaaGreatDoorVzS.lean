import Derived.Test.YtbkddpckkgbbmaaGreatDoorVzR
import Derived.Test.YtbkddpckkgbbmaaGreatDoorRep
set_option linter.unusedSimpArgs false
set_option linter.unusedVariables false
set_option linter.unusedSectionVars false
set_option linter.unnecessarySimpa false
namespace Go.Oct
open Go Go.Vc Go.VrA Go.VrB Go.VrC Go.VrE
set_option maxRecDepth 100000

/-! ### law 22: MessagePlays, the end -/

theorem repeatL_len (c : UInt8) (n : Nat) : (Lib.repeatL [c] n).length = n := by
  induction n with
  | zero => rfl
  | succ n ih =>
    have : Lib.repeatL [c] (n + 1) = [c] ++ Lib.repeatL [c] n := by
      simp [Lib.repeatL]
    rw [this, List.length_append, ih, List.length_cons, List.length_nil]; omega
theorem repeatQ_c (w : World) (K : Value → World → Prop) (h : ∀ w' (s : ByteArray), Mod (fun _ => False) w w' → s.size = 300 → K (.string s) w') : Ok Proofs.Tryz.prog 42 #[.string ⟨#[113]⟩, .int .i64 (300 : Int)] w K := by
  have e : (300 : Int) = ((300 : Nat) : Int) := rfl
  rw [e]
  refine ok_of_calls (by kernel_rfl) (Go.Proofs.Tryz.strings_Repeat ⟨#[113]⟩ 300 w (by omega) (by show 1 * 300 ≤ _; omega)) ?_
  rintro e w' ⟨rfl, hlo⟩
  refine ⟨_, rfl, ?_⟩
  refine h w' _ (Mod.of_below hlo) ?_
  show (Lib.repeatL [113] 300).toArray.size = 300
  rw [List.size_toArray, repeatL_len]

theorem msFlat_pairs (D : List Ms) : msFlat (D.map fun y => (y, (0 : Int))) = D.flatMap Ms.cells := by
  rw [msFlat_map, List.map_map]
  congr 1
  exact List.map_id' _

theorem plays_tail (sb mb : Nat) (h0 : 0 ≠ mb) (c : Nat) (map : M) (B : List Ms) (v : Value) (m : Int) (Ds : List Nat) (q : ByteArray) (from_ now res : Nat) (ρ : Env) (w : World) (K : Value → World → Prop) (hAt : (shelf sb mb h0).At (c, map) w) (hg : Gl m w) (hz : 0 < w.heap.size)
    (hr : Rl B map) (hB : B.length < 2 ^ 10) (hv : IsBx w v B) (hq : q.size ≤ 400) (hfr : from_ < 2 ^ 64) (hnow : now < 2 ^ 64)
    (h1 : ρ 1 = .string q) (h2 : ρ 2 = .int .u64 from_) (h3 : ρ 3 = .int .u64 now) (h8 : ρ 8 = ptr res) (h9 : ρ 9 = ptr sb) (h10 : ρ 10 = v)
    (hres : w.heap[res]? = some (.cells #[.bool false] 4 (0, 0))) (hDs : ∀ D ∈ Ds, w.heap[D]? = some (.deferred (some []))) (hnd : Ds.Nodup)
    (h : ∀ w', Mod (fun k => k = res ∨ k ∈ Ds) w w' → K (.bool true) w') :
    vc Proofs.Tryz.prog none 186 c7t (endQ Proofs.Tryz.prog r7 K) ρ (Ds.map markD) w := by
  have hml := hr.length
  have htl : (termsL B).length ≤ B.length := List.length_filter_le _ _
  have hpg := pureGet_shelf sb mb h0 (c, map)
  have hpr := pure_shelf sb mb h0 (c, map) (show map.length * 16 ≤ 140737488355328 by omega)
  have hfl : ∀ n, (fromL q n B).length ≤ B.length := fun n => List.length_filter_le _ _
  have hDl : (dueR now B).length ≤ B.length := by
    have hk : ∀ (l acc : List Ms), (l.foldl (dueStep now) acc).length ≤ acc.length + l.length := by
      intro l
      induction l with
      | nil => intro acc; simp
      | cons y r ih =>
        intro acc
        rw [List.foldl_cons]
        have := ih (dueStep now acc y)
        have h2 : (dueStep now acc y).length ≤ acc.length + 1 := by
          unfold dueStep
          split
          · omega
          · rw [insD_length]; omega
        rw [List.length_cons]; omega
    have := hk B []
    rw [List.length_nil] at this
    unfold dueR; omega
  have hRl : ∀ n, ∀ r ∈ ((shelf sb mb h0).rng (c, map) (boundsL q n).1 (boundsL q n).2).1, r.1.2.length < 2 ^ 60 := by
    intro n r hr1
    obtain ⟨p, hp, rfl⟩ := List.mem_map.1 hr1
    exact hr.vals p (List.mem_filter.1 hp).1
  unfold c7t r7
  simp only [subC, c7, vc_seq, vc_ops, vcOps_cons, goL_apply, upd_same, upd_other, updO_some, ev_tmp, insVc, ne_eq, not_false_eq_true, Nat.reduceEqDiff, List.map_cons, List.map_nil, h9, h1, h2]
  -- List
  have hq' : q.size < 4294967281 := by omega
  refine list_c (shelf sb mb h0) (c, map) hpr q from_ m w _ hAt hg hq' hfr (hRl from_) ?_
  rw [list_shelf sb mb h0 c hr q from_ hfr]
  intro w1 gf cap hm1 it
  have hA1 := (shelf sb mb h0).keep0 hAt hm1
  have hg1 := hg.mod hm1 id
  have hFs : ∀ (wa wb : World), Mod (fun _ => False) w wa → wa.heap.size ≤ wb.heap.size → ∀ (S : Nat → Prop) (a b : World), ((shelf sb mb h0).At (c, map) a ∧ Gl m a ∧ Kept wa.heap.size wb a) → Mod S a b → (∀ k, S k → wb.heap.size ≤ k) → ((shelf sb mb h0).At (c, map) b ∧ Gl m b ∧ Kept wa.heap.size wb b) := by
    rintro wa wb hwa hab S a b ⟨f1, f2, f3⟩ hm hS
    have hws := hwa.size
    have := f3.1
    exact ⟨(shelf sb mb h0).keep S _ _ _ f1 hm (fun k _ hk x => by have := (shelf sb mb h0).footLt (c, map) w _ hAt x; have := hS k hk; omega), f2.mod hm (fun x => by have := hS _ x; omega), f3.keep hm (fun k h1 h2 hk => by have := hS k hk; omega)⟩
  simp only [vcOps_cons, goL_apply, upd_same, updO_some, ev_tmp, insVc, List.map_cons, List.map_nil]
  have s1 : ((fromL q from_ B).map fun y => (y, (0 : Int))).length < 2 ^ 20 := by rw [List.length_map]; have := hfl from_; omega
  have f1 := hFs w w1 (Mod.refl _ _) hm1.size
  refine all_c gf cap _ _ w1 _ it s1 ⟨hA1, hg1, Kept.refl _ _⟩ f1 ?_
  intro w2 v1 hm2 ho1 _
  rw [firstE_zero] at ho1 ⊢
  have hb1 : IsBx w2 v1 (fromL q from_ B) := by
    have := ho1 rfl
    rw [msFlat_pairs, List.length_map] at this
    exact IsBx.own this
  have hm02 := hm1.trans hm2
  have hA2 := (shelf sb mb h0).keep0 hAt hm02
  have hg2 := hg.mod hm02 id
  simp only [vc_seq, vc_ops, vcOps_nil, vcOps_cons, goL_apply, thenQ_normal, upd_same, upd_other, updO_some, ev_tmp, insVc, loadV_some, extK, ne_eq, not_false_eq_true, Nat.reduceEqDiff, List.map_cons, List.map_nil, List.getElem?_cons_zero, List.getElem?_cons_succ, List.getElem?_toArray, h9, h3]
  -- Due
  have hRd : ∀ r ∈ (shelf sb mb h0).dueRows (c, map) now, (parseR ⟨r.1.1.toArray⟩).1.queue.size < 4294967281 ∧ (parseR ⟨r.1.1.toArray⟩).1.id < 2 ^ 64 ∧ ((shelf sb mb h0).get (c, map) (messageK (parseR ⟨r.1.1.toArray⟩).1.queue (parseR ⟨r.1.1.toArray⟩).1.id).1).1.1.size < 2 ^ 60 := by
    intro r hr1
    rw [due_rows2 sb mb h0 c hr now hnow] at hr1
    obtain ⟨p, hp, rfl⟩ := List.mem_map.1 hr1
    obtain ⟨y, hy, rfl⟩ := List.mem_map.1 hp
    obtain ⟨y1, y2, y3⟩ := (due_mem now hr.sortB y).1 hy
    have hyf := hr.fit y y1
    have hpar : parseR ⟨(tP y).1.toArray⟩ = _ := parse_tkey2 y.expiry y.queue y.id (hyf.1.2 y2) hyf.2.2.1 hyf.2.1
    rw [hpar]
    exact ⟨by have := hyf.qsize; show y.queue.size < _; omega, hyf.2.1, get_size sb mb h0 _ _ (by decide) hr.vals _⟩
  refine due_c (shelf sb mb h0) (c, map) hpg hpr now m w2 _ hA2 hg2 hnow hRd ?_
  rw [due_shelf sb mb h0 c hr now hnow]
  intro w3 gf3 cap3 hm3 it3
  have hm03 := hm02.trans hm3
  have hA3 := (shelf sb mb h0).keep0 hAt hm03
  simp only [vcOps_cons, goL_apply, upd_same, updO_some, ev_tmp, insVc, List.map_cons, List.map_nil]
  have s3 : ((dueR now B).map fun y => (y, (0 : Int))).length < 2 ^ 20 := by rw [List.length_map]; omega
  have f3 := hFs w2 w3 hm02 hm3.size
  have g3 := hg.mod hm03 id
  refine all_c gf3 cap3 _ _ w3 _ it3 s3 ⟨hA3, g3, Kept.refl _ _⟩ f3 ?_
  intro w4 v2 hm4 ho2 _
  rw [firstE_zero] at ho2 ⊢
  have hb2 : IsBx w4 v2 (dueR now B) := by
    have := ho2 rfl
    rw [msFlat_pairs, List.length_map] at this
    exact IsBx.own this
  have hm04 := hm03.trans hm4
  have hA4 := (shelf sb mb h0).keep0 hAt hm04
  simp only [vc_seq, vc_ops, vcOps_nil, vcOps_cons, goL_apply, thenQ_normal, upd_same, upd_other, updO_some, ev_tmp, insVc, loadV_some, extK, ne_eq, not_false_eq_true, Nat.reduceEqDiff, List.map_cons, List.map_nil, List.getElem?_cons_zero, List.getElem?_cons_succ, List.getElem?_toArray, h9, h1]
  -- Count
  have z4 : 0 < w4.heap.size := by have := hm04.size; omega
  have s4 : ((shelf sb mb h0).listRows (c, map) q 0).length < 2 ^ 40 := by rw [list_shelf sb mb h0 c hr q 0 (by decide), List.length_map]; have := hfl 0; omega
  have g4 := hg.mod hm04 id
  refine count_c (shelf sb mb h0) (c, map) hpr q m w4 _ hA4 g4 z4 hq' (hRl 0) s4 ?_
  intro w5 hm5
  have hcr : countR ((shelf sb mb h0).listRows (c, map) q 0) = ((fromL q 0 B).length, 0) := by
    rw [list_shelf sb mb h0 c hr q 0 (by decide)]
    unfold countR
    rw [firstE_zero, List.length_map]; rfl
  rw [hcr]
  have hm05 := hm04.trans hm5
  simp only [vc_seq, vc_ops, vcOps_nil, vcOps_cons, goL_apply, thenQ_normal, upd_same, upd_other, updO_some, ev_tmp, ev_const, insVc, loadV_some, extK, ne_eq, not_false_eq_true, Nat.reduceEqDiff, List.map_cons, List.map_nil, List.getElem?_cons_zero, List.getElem?_cons_succ, List.getElem?_toArray, h9]
  -- Get
  refine repeatQ_c w5 _ ?_
  intro w6 s hm6 hs6
  have hm06 := hm05.trans hm6
  have hA6 := (shelf sb mb h0).keep0 hAt hm06
  simp only [vcOps_cons, goL_apply, upd_same, upd_other, updO_some, ev_tmp, ev_const, insVc, ne_eq, not_false_eq_true, Nat.reduceEqDiff, List.map_cons, List.map_nil]
  have g6 := hg.mod hm06 id
  have s6 : s.size < 4294967281 := by omega
  have v6 : ((shelf sb mb h0).get (c, map) (messageK s 1).1).1.1.size < 2 ^ 60 := get_size sb mb h0 _ _ (by decide) hr.vals _
  have n6 : 1 < 2 ^ 64 := by decide
  refine msget_c (shelf sb mb h0) (c, map) hpg s 1 m w6 _ hA6 g6 s6 n6 v6 ?_
  intro w7 hm7
  have hnone : (shelf sb mb h0).mgetR (c, map) s 1 = (ms0, 21) := by
    refine mget_shelf_none sb mb h0 c hr (by decide) ?_
    rintro y hy ⟨e1, _⟩
    have := (hr.fit y hy).qsize
    rw [e1] at this; omega
  rw [hnone]
  have hm07 := hm06.trans hm7
  simp only [vc_seq, vc_ops, vcOps_nil, vcOps_cons, vcOps_gate, gateK_true, gate_true, goL_apply, thenQ_normal, upd_same, upd_other, updO_some, updO_none, ev_tmp, ev_const, insVc, loadV_some, storeNK, storeNO_cells, setMany, iopK, iopV, extK, isPlain, Value.cells, ne_eq, not_false_eq_true, Nat.reduceEqDiff, Nat.reduceAdd, Nat.reduceLeDiff, reduceCtorEq, List.map_cons, List.map_nil, List.getElem?_cons_zero, List.getElem?_cons_succ, List.getElem?_toArray, List.size_toArray, List.length_cons, List.length_nil, List.setIfInBounds_toArray, List.set_cons_zero, List.set_cons_succ, true_and, or_false, and_self, Nat.zero_add, Bool.and_true, Int.reduceBEq, List.all_toArray', List.all_cons, List.all_nil, get_alloc_new, Ms.val, Ms.cells, ms0, h10, h1, h2]
  refine callK_gen ?_
  intro w8 hw8
  have hm8 : Mod (fun _ => False) w7 w8 := by rw [hw8]; exact ((Mod.refl _ _).alloc _).set (.inl (Nat.le_refl _))
  have hm08 := hm07.trans hm8
  clear hw8
  have hm28 : Mod (fun _ => False) w2 w8 := ((((hm3.trans hm4).trans hm5).trans hm6).trans hm7).trans hm8
  have hm48 : Mod (fun _ => False) w4 w8 := ((hm5.trans hm6).trans hm7).trans hm8
  have hB19 : B.length < 2 ^ 19 := by omega
  have l20 : (fromL q from_ B).length < 2 ^ 20 := by have := hfl from_; omega
  have d20 : (dueR now B).length < 2 ^ 20 := by omega
  have v8 := hv.keep hm08
  refine rfrom_c B q from_ v w8 _ v8 hB19 ?_
  intro w9 v3 hm9 hb3
  have hm09 := hm08.trans hm9
  simp only [vcOps_gate, gateK_true, gate_true, goL_apply, upd_same, upd_other, updO_some, ev_tmp, insVc, ne_eq, not_false_eq_true, Nat.reduceEqDiff, List.map_cons, List.map_nil]
  have b9 := (hb1.keep hm28).keep hm9
  refine same_c (fromL q from_ B) v1 v3 w9 _ b9 hb3 l20 ?_
  intro w10 hm10
  have hm010 := hm09.trans hm10
  have e00 : ((0 : Int) == 0) = true := rfl
  simp only [vcOps_cons, vcOps_gate, gateK_true, gate_true, goL_apply, upd_same, upd_other, updO_some, ev_tmp, ev_const, insVc, pickK, loadV_some, iopK, iopV, ne_eq, not_false_eq_true, Nat.reduceEqDiff, reduceCtorEq, List.map_cons, List.map_nil, true_and, or_false, if_true, Int.reduceBEq, h10, h3]
  have v10 := hv.keep hm010
  refine rdue_c B now v w10 _ v10 hB19 ?_
  intro w11 v4 hm11 ho4
  have hm011 := hm010.trans hm11
  simp only [vcOps_gate, gateK_true, gate_true, goL_apply, upd_same, upd_other, updO_some, ev_tmp, insVc, ne_eq, not_false_eq_true, Nat.reduceEqDiff, List.map_cons, List.map_nil]
  have b11 := hb2.keep (((hm48.trans hm9).trans hm10).trans hm11)
  have b4 := IsBx.own ho4
  refine same_c (dueR now B) v2 v4 w11 _ b11 b4 d20 ?_
  intro w12 hm12
  have hm012 := hm011.trans hm12
  simp only [vcOps_cons, vcOps_gate, gateK_true, gate_true, goL_apply, upd_same, upd_other, updO_some, ev_tmp, ev_const, insVc, pickK, loadV_some, iopK, iopV, ne_eq, not_false_eq_true, Nat.reduceEqDiff, reduceCtorEq, List.map_cons, List.map_nil, true_and, or_false, if_true, Int.reduceBEq, h10, h1]
  have v12 := hv.keep hm012
  refine rfrom_c B q 0 v w12 _ v12 hB19 ?_
  intro w13 v5 hm13 hb5
  have hm013 := hm012.trans hm13
  obtain ⟨⟨a5, cp5, rfl⟩, _⟩ := hb5
  have eqn : ((((fromL q 0 B).length : Nat) : Int) == (((fromL q 0 B).length : Nat) : Int)) = true := by simp
  have r13 := hm013.keep hres id
  simp only [vc_ret, vcOps_nil, vcOps_cons, vcOps_gate, gateK_true, gate_true, goL_apply, thenQ_normal, upd_same, upd_other, updO_some, updO_none, ev_tmp, ev_const, endQ_ret, insVc, pickK, loadV_some, storeK, storeO_cells, iopK, iopV, lenLK, isPlain, ne_eq, not_false_eq_true, Nat.reduceEqDiff, Nat.reduceLT, Nat.reduceLeDiff, reduceCtorEq, List.size_toArray, List.length_cons, List.length_nil, List.setIfInBounds_toArray, List.set_cons_zero, true_and, or_false, and_self, if_true, Nat.zero_add, decide_true, decide_false, Bool.and_false, Int.reduceBEq, Nat.lt_add_one, eqn, h8, r13]
  refine endK_marks Ds _ ?_ hnd ?_
  · intro D hD
    have h1 := hDs D hD
    have hm14 : Mod (fun k => k = res) w13 (Vc.set w13 res (.cells #[.bool true] 4 (0, 0))) := (Mod.refl _ _).set (.inr rfl)
    refine hm14.keep (hm013.keep h1 id) ?_
    rintro rfl
    rw [h1] at hres; cases hres
  · intro w15 hm15
    have hm14 : Mod (fun k => k = res) w13 (Vc.set w13 res (.cells #[.bool true] 4 (0, 0))) := (Mod.refl _ _).set (.inr rfl)
    have r14 : (Vc.set w13 res (.cells #[.bool true] 4 (0, 0))).heap[res]? = some (.cells #[.bool true] 4 (0, 0)) := get_set_same _ _ _ (lt_of_get r13)
    have r15 := hm15.keep r14 (fun hD => by have h1 := hDs res hD; rw [h1] at hres; cases hres)
    simp only [upd_other, resK, res1, packed, ne_eq, not_false_eq_true, Nat.reduceEqDiff, List.nil_append, h8, r15]
    exact h w15 (((hm013.mono fun _ _ x => x.elim).trans (hm14.mono fun k _ e => .inl e)).trans (hm15.mono fun k _ e => .inr e))
end Go.Oct

namespace Go.Oct
open Go Go.Vc Go.VrA Go.VrB Go.VrC Go.VrE
set_option maxRecDepth 100000

/-! ### law 22: MessagePlays -/

theorem c7_s : c7 = .seq (subC c7 [0]) (.seq (subC c7 [1, 0]) (.seq (subC c7 [1, 1, 0]) (.seq (subC c7 [1, 1, 1, 0]) (.seq
  (.seq (subC c7 [1, 1, 1, 1, 0, 0]) (.block 0 (.loop (.seq (subC c7 [1, 1, 1, 1, 0, 1, 0, 0, 0]) (.seq (subC c7 [1, 1, 1, 1, 0, 1, 0, 0, 1, 0]) (.seq (.block 1 (.seq (subC c7 [1, 1, 1, 1, 0, 1, 0, 0, 1, 1, 0, 0, 0]) (.seq (subC c7 [1, 1, 1, 1, 0, 1, 0, 0, 1, 1, 0, 0, 1, 0]) (.seq (subC c7 [1, 1, 1, 1, 0, 1, 0, 0, 1, 1, 0, 0, 1, 1, 0]) c7k))))
    (subC c7 [1, 1, 1, 1, 0, 1, 0, 0, 1, 1, 1]))))))) c7t)))) := rfl

theorem doR_len (a : Ac) (B : List Ms) : (doR a B).length ≤ B.length + 1 := by
  have hadd : ∀ (x : Ms) (B : List Ms), (addR x B).1.length ≤ B.length + 1 := by
    intro x B
    unfold addR
    split
    · exact Nat.le_succ _
    · split
      · exact Nat.le_succ _
      · exact Nat.le_of_eq (insR_length _ _)
  have htk : ∀ (q : ByteArray) (n : Nat) (B : List Ms), (takeR q n B).1.length ≤ B.length := by
    intro q n B
    unfold takeR
    split
    · exact Nat.le_refl _
    · exact withoutL_len _ _
  unfold doR
  split
  · unfold saveR
    split
    · exact Nat.le_succ _
    · split
      · exact Nat.le_succ _
      · show (insR _ _).length ≤ _
        rw [insR_length]
        have := withoutL_len (findL a.m.queue a.m.id B 0) B
        omega
  · split
    · exact Nat.le_succ_of_le (htk _ _ _)
    · split
      · unfold moveR
        split
        · have h1 := hadd a.nx (takeR a.m.queue a.m.id B).1
          have h2 := htk a.m.queue a.m.id B
          omega
        · exact Nat.le_succ_of_le (htk _ _ _)
      · split
        · exact Nat.le_succ_of_le (List.length_filter_le _ _)
        · exact hadd _ _

theorem plays22_c (L : List Ac) (vl : Value) (q : ByteArray) (from_ now : Nat) (m : Int) (w : World) (K : Value → World → Prop) (hg : Gl m w) (hv : IsAcs w vl L) (hLl : L.length ≤ 9223372036854775807)
    (hL : ∀ a ∈ L, (a.m.id < 2 ^ 64 ∧ a.m.expiry < 2 ^ 64 ∧ a.m.tries < 2 ^ 32) ∧ (a.nx.id < 2 ^ 64 ∧ a.nx.expiry < 2 ^ 64 ∧ a.nx.tries < 2 ^ 32))
    (hLs : ∀ a ∈ L, a.m.queue.size ≤ maxLen ∧ a.nx.queue.size ≤ maxLen ∧ a.m.body.size ≤ maxLen ∧ a.nx.body.size ≤ maxLen)
    (hfr : from_ < 2 ^ 64) (hnow : now < 2 ^ 64)
    (h : ∀ w', Mod (fun _ => False) w w' → K (.bool true) w') :
    Ok Proofs.Tryz.prog 7 #[vl, .string q, .int .u64 from_, .int .u64 now] w K := by
  obtain ⟨⟨a, cp, rfl⟩, hat⟩ := id hv
  have h0w : 0 < w.heap.size := World.block_lt_of_cell? w _ hg
  refine F7.enter (args := [.slice a L.length cp, .string q, .int .u64 from_, .int .u64 now]) (by simp) ?_
  rw [c7_s]
  simp only [subC, c7, vc_seq, vc_ops, vcOps_nil, vcOps_cons, goL_apply, thenQ_normal, updO_some, insVc, Value.cells, List.map_nil]
  refine callK_gen ?_
  intro w1 hw1
  have hm1 : Mod (fun _ => False) w w1 := by rw [hw1]; exact (Mod.refl _ _).alloc _
  have r1 : w1.heap[w.heap.size]? = some (.cells #[.bool false] 4 (0, 0)) := by rw [hw1]; simp only [if_true, get_alloc]
  clear hw1
  refine awake22_c m w1 _ (hg.mod hm1 id) ?_
  intro w2 hm2
  have hm02 := hm1.trans hm2
  have rr2 := hm2.keep r1 id
  simp only [vc_skip, vc_seq, vc_cond, vc_ops, vcOps_nil, vcOps_cons, goL_apply, thenQ_normal, condP_false, upd_same, upd_other, updO_some, ev_tmp, ev_const, initE_at, insVc, notK, ne_eq, not_false_eq_true, reduceCtorEq, Bool.not_true, Option.getD_some, List.map_cons, List.map_nil, List.getElem?_cons_zero]
  have hv2 : IsAcs w2 (.slice a L.length cp) L := ⟨⟨_, _, rfl⟩, fun i x hx => by
    obtain ⟨b, o, c, cur, t, f, e1, e2, e3⟩ := hat i x hx
    exact ⟨b, o, c, cur, t, f, e1, hm02.keep e2 id, e3⟩⟩
  refine light22_c L 40 _ w2 _ hv2 hLl hLs ?_
  intro w3 r hm3 hok
  have hm03 := hm02.trans hm3
  have rr3 := hm3.keep rr2 id
  have ret : ∀ u : World, Mod (fun _ => False) w u → Mod (fun _ => False) w (Vc.set u w.heap.size (.cells #[.bool true] 4)) := fun u hu => hu.set (.inl (Nat.le_refl _))
  cases r with
  | false =>
    simp only [vc_seq, vc_cond, vc_ret, vc_ops, vcOps_nil, vcOps_cons, vcOps_gate, gateK_false, gate_false, goL_apply, thenQ_normal, thenQ_ret, condP_true, upd_same, upd_other, updO_some, updO_none, ev_tmp, ev_const, endQ_ret, endK, resK, res1, packed, insVc, pickK, storeK, storeO_cells, notK, isPlain, ne_eq, not_false_eq_true, Nat.reduceEqDiff, Nat.reduceLT, Nat.reduceLeDiff, Bool.not_true, Bool.not_false, List.size_toArray, List.length_cons, List.length_nil, List.setIfInBounds_toArray, List.set_cons_zero, List.nil_append, true_and, and_self, if_true, Nat.zero_add, decide_true, decide_false, Bool.and_false, Nat.lt_add_one, rr3, get_set_same _ _ _ (lt_of_get rr3)]
    exact h _ (ret w3 hm03)
  | true =>
  have hokL := hok rfl
  by_cases cq : q.size > 400
  · have dq : ((q.size : Nat) : Int) > 400 := by omega
    simp only [vc_seq, vc_cond, vc_ret, vc_ops, vcOps_nil, vcOps_cons, vcOps_gate, gateK_true, gate_false, goL_apply, thenQ_normal, thenQ_ret, condP_true, upd_same, upd_other, updO_some, updO_none, ev_tmp, ev_const, endQ_ret, endK, resK, res1, packed, initE_at, insVc, pickK, loadV_some, storeK, storeO_cells, iopK, iopV, notK, lenSK, isPlain, ne_eq, not_false_eq_true, Nat.reduceEqDiff, Nat.reduceLT, Nat.reduceLeDiff, reduceCtorEq, Bool.not_true, Bool.not_false, Option.getD_some, List.getElem?_cons_zero, List.getElem?_cons_succ, List.size_toArray, List.length_cons, List.length_nil, List.setIfInBounds_toArray, List.set_cons_zero, List.nil_append, true_and, or_false, and_self, if_false, Bool.false_eq_true, Nat.zero_add, decide_true, decide_false, Bool.and_false, Nat.lt_add_one, dq, rr3, get_set_same _ _ _ (lt_of_get rr3)]
    exact h _ (ret w3 hm03)
  have dq : ¬ ((q.size : Nat) : Int) > 400 := by omega
  simp only [vc_skip, vc_seq, vc_cond, vc_ops, vcOps_nil, vcOps_cons, vcOps_gate, gateK_true, gate_false, goL_apply, thenQ_normal, condP_false, upd_same, upd_other, updO_some, ev_tmp, ev_const, initE_at, insVc, pickK, loadV_some, iopK, iopV, notK, lenSK, ne_eq, not_false_eq_true, Nat.reduceEqDiff, reduceCtorEq, Bool.not_true, Bool.not_false, Option.getD_some, List.map_cons, List.map_nil, List.getElem?_cons_zero, List.getElem?_cons_succ, true_and, or_false, if_false, Bool.false_eq_true, decide_false, dq]
  refine new_c [] _ w3 _ (.inl ⟨rfl, _, rfl⟩) (by simp) (fun _ h => by cases h) ?_
  intro w5 sb mb hm5 hsb hmb hs5
  have hz3 := hm03.size
  have h0 : 0 ≠ mb := by omega
  have hm05 := hm03.trans hm5
  have lr3 := lt_of_get rr3
  have rr5 := hm5.keep rr3 id
  have hmb5 : mb < w5.heap.size := World.ownsMap.lt hs5.2.1
  have hL40 : L ≠ [] → L.length ≤ 40 := by
    intro hne
    obtain ⟨x, hx⟩ := List.exists_mem_of_ne_nil L hne
    exact (hokL x hx).1
  have hL40' : L.length ≤ 40 := by
    by_cases e : L = []
    · rw [e]; simp
    · exact hL40 e
  simp only [vc_seq, vc_block, vc_ops, vcOps_nil, vcOps_cons, goL_apply, thenQ_normal, upd_same, upd_other, updO_some, ev_tmp, ev_const, initE_at, insVc, lenLK, ne_eq, not_false_eq_true, reduceCtorEq, Option.getD_some, List.getElem?_cons_zero]
  refine vc_loop (fun mm ρ ds u => ∃ (i : Nat) (B : List Ms) (v' : Value) (c : Nat) (map : M) (Ds : List Nat), i ≤ L.length ∧ mm = L.length - i ∧ ds = Ds.map markD ∧ ρ 1 = .string q ∧ ρ 2 = .int .u64 from_ ∧ ρ 3 = .int .u64 now ∧ ρ 8 = ptr w.heap.size ∧ ρ 9 = ptr sb ∧ ρ 10 = v' ∧
    ρ 42 = .slice a L.length cp ∧ ρ 43 = .int .i64 L.length ∧ ρ 44 = .int .i64 i ∧
    Mod (fun k => k = mb) w5 u ∧ IsBx u v' B ∧ (shelf sb mb h0).At (c, map) u ∧ Rl B map ∧ c ≤ 2 * i ∧ B.length ≤ i ∧ (∀ D ∈ Ds, w5.heap.size ≤ D ∧ u.heap[D]? = some (.deferred (some []))) ∧ Ds.Nodup) (L.length - 0) ?_ ?_
  · exact ⟨0, [], _, 0, [], [], Nat.zero_le _, rfl, rfl, by simp only [upd_other, initE_at, ne_eq, not_false_eq_true, Nat.reduceEqDiff, Option.getD_some, List.getElem?_cons_zero, List.getElem?_cons_succ], by simp only [upd_other, initE_at, ne_eq, not_false_eq_true, Nat.reduceEqDiff, Option.getD_some, List.getElem?_cons_zero, List.getElem?_cons_succ], by simp only [upd_other, initE_at, ne_eq, not_false_eq_true, Nat.reduceEqDiff, Option.getD_some, List.getElem?_cons_zero, List.getElem?_cons_succ], by simp only [upd_same, upd_other, ne_eq, not_false_eq_true, Nat.reduceEqDiff], by simp only [upd_same, upd_other, ne_eq, not_false_eq_true, Nat.reduceEqDiff], by simp only [upd_same, upd_other, ne_eq, not_false_eq_true, Nat.reduceEqDiff], by simp only [upd_same, upd_other, ne_eq, not_false_eq_true, Nat.reduceEqDiff], by simp only [upd_same, upd_other, ne_eq, not_false_eq_true, Nat.reduceEqDiff], by simp only [upd_same]; rfl, Mod.refl _ _, IsBx.nil _, hs5, Rl.nil, by simp, by simp, by simp, by simp⟩
  · rintro mm ρ ds u ⟨i, B, v', c, map, Ds, hi, rfl, rfl, g1, g2, g3, g8, g9, g10, g42, g43, g44, hmu, hbx, hAu, hr, hc, hBl, hDs, hnd⟩
    have hmwu : Mod (fun _ => False) w u := hm05.then hmu (fun k hk e => by omega)
    have ru := hmu.keep rr5 (by omega)
    by_cases c1 : i < L.length
    · have d1 : (i : Int) < ((L.length : Nat) : Int) := by omega
      obtain ⟨x, hxi⟩ : ∃ x, L[i]? = some x := ⟨L[i], List.getElem?_eq_getElem c1⟩
      obtain ⟨b, o, cc, cur, t, f, he, hb, hsz, hex⟩ := hat i x hxi
      have hbu := hmwu.keep hb id
      have ha : a = some ⟨b, o, none⟩ := by simpa using congrArg (fun x => match x with | .slice a _ _ => a | _ => none) he
      subst ha
      have hi0 : (0 : Int) ≤ (i : Int) ∧ (i : Int) < ((L.length : Nat) : Int) := by omega
      have hwi : IntKind.i64.wrap ((i : Int) + 1) = ((i + 1 : Nat) : Int) := by rw [wrap_i64 _ (by omega)]; omega
      have hxL := List.mem_of_getElem? hxi
      obtain ⟨⟨p1, p2, p3⟩, p4, p5, p6⟩ := hL x hxL
      obtain ⟨_, o1, o2, o3, o4⟩ := hokL x hxL
      obtain ⟨u1, hu1⟩ : ∃ u1, u1 = Vc.set (u.alloc (.cells #[.int .i64 0, .string ⟨#[]⟩, .int .u64 0, .int .u32 0, .int .u64 0, .string ⟨#[]⟩, .string ⟨#[]⟩, .int .u64 0, .int .u32 0, .int .u64 0, .string ⟨#[]⟩] 89)) u.heap.size (.cells #[.int .i64 x.act, .string x.m.queue, .int .u64 x.m.id, .int .u32 x.m.tries, .int .u64 x.m.expiry, .string x.m.body, .string x.nx.queue, .int .u64 x.nx.id, .int .u32 x.nx.tries, .int .u64 x.nx.expiry, .string x.nx.body] 89) := ⟨_, rfl⟩
      have hmu1 : Mod (fun _ => False) u u1 := by rw [hu1]; exact ((Mod.refl _ _).alloc _).set (.inl (Nat.le_refl _))
      have hA1 := (shelf sb mb h0).keep0 hAu hmu1
      have hg1 : Gl m u1 := hg.mod (hmwu.trans hmu1) id
      have hz1 : 0 < u1.heap.size := by have := (hmwu.trans hmu1).size; omega
      have hB18 : B.length < 2 ^ 18 := by omega
      have hml : map.length * 16 ≤ 140737488355328 := by
        have h1 := hr.length
        have h2 : (termsL B).length ≤ B.length := List.length_filter_le _ _
        omega
      have hb1 := hbx.keep hmu1
      have hc4 : c + 4 < maxLen := by simp only [maxLen]; omega
      have am : x.m.anyQ := ⟨⟨p1, p2, p3, o3⟩, o1⟩
      have an : x.nx.anyQ := ⟨⟨p4, p5, p6, o4⟩, o2⟩
      simp only [vc_skip, vc_seq, vc_cond, vc_block, vc_ops, vcOps_nil, vcOps_cons, goL_apply, thenQ_normal, condP_true, upd_same, upd_other, updO_some, updO_none, ev_tmp, ev_const, insVc, loadV_some, loadNK, loadNO_cells, storeNK, storeNO_cells, setMany, iopK, iopV, iaddrK, isPlain, Value.cells, ne_eq, not_false_eq_true, Nat.reduceEqDiff, Nat.reduceAdd, Nat.reduceLeDiff, reduceCtorEq, List.map_cons, List.map_nil, List.size_toArray, List.length_cons, List.length_nil, List.setIfInBounds_toArray, List.set_cons_zero, List.set_cons_succ, List.nil_append, List.cons_append, true_and, or_false, and_self, Nat.zero_add, decide_true, Bool.and_true, Int.toNat_natCast, List.extract_toArray, List.extract_eq_take_drop, List.drop_zero, List.take_zero, List.take_succ_cons, Nat.sub_zero, List.all_toArray', List.all_cons, List.all_nil, size_alloc, get_alloc_new, get_set_same, Nat.lt_add_one, g9, g10, g42, g43, g44, d1, hi0, hbu, hsz, hex, Ac.cells, Ms.cells]
      rw [← hu1]
      refine do22_c sb mb h0 c map B x v' m u1 _ hA1 hg1 hz1 hr hB18 hml hb1 am an hc4 ?_
      intro u2 v2 c2 map2 hm2' hA2 hr2 hc2 hb2
      have hmu2 : Mod (fun k => k = mb) w5 u2 := (hmu.trans (hmu1.mono fun _ _ x => x.elim)).trans hm2'
      have hmwu2 : Mod (fun _ => False) w u2 := hm05.then hmu2 (fun k hk e => by omega)
      have hl2 := doR_len x B
      have hg2 : Gl m u2 := hg.mod hmwu2 id
      have hz2 : 0 < u2.heap.size := by have := hmwu2.size; omega
      have hB2 : (doR x B).length < 2 ^ 18 := by omega
      simp only [vc_skip, vc_seq, vc_cond, vc_ops, vcOps_nil, vcOps_cons, goL_apply, thenQ_normal, condP_false, upd_same, upd_other, updO_some, ev_tmp, insVc, loadV_some, notK, extK, ne_eq, not_false_eq_true, Nat.reduceEqDiff, Bool.not_true, List.getElem?_cons_zero, List.getElem?_cons_succ, List.getElem?_toArray]
      refine plays_look sb mb h0 c2 map2 (doR x B) v2 m _ _ u2 _ hA2 hg2 hz2 hr2 hB2 hb2 (by simp only [upd_other, ne_eq, not_false_eq_true, Nat.reduceEqDiff, g9]) (by simp only [upd_same, upd_other, ne_eq, not_false_eq_true, Nat.reduceEqDiff]) ?_
      intro ρ' u3 D hm3' hD hDu k0 k1 k2 k3 k8 k9 k10 k42 k43 k44
      have hm23 : Mod (fun k => k = mb) u u3 := (hmu1.mono fun _ _ x => x.elim).trans (hm2'.trans (hm3'.mono fun _ _ x => x.elim))
      simp only [vc_ops, vcOps_nil, vcOps_cons, goL_apply, thenQ_normal, blockQ_normal, upd_same, upd_other, updO_some, ev_tmp, ev_const, insVc, loadV_some, iopK, iopV, ne_eq, not_false_eq_true, Nat.reduceEqDiff, reduceCtorEq, true_and, or_false, k1, k2, k3, k8, k9, k10, k42, k43, k44, g1, g2, g3, g8, g9, g42, g43, g44, hwi]
      refine ⟨L.length - (i + 1), by omega, i + 1, doR x B, v2, c2, map2, D :: Ds, by omega, rfl, rfl, rfl, rfl, hmu.trans hm23, hb2.keep hm3', (shelf sb mb h0).keep0 hA2 hm3', hr2, by omega, by omega, ?_, ?_⟩
      · intro E hE
        rcases List.mem_cons.1 hE with rfl | hE
        · exact ⟨by have := hmu2.size; omega, hD⟩
        · obtain ⟨e1, e2⟩ := hDs E hE
          exact ⟨e1, hm23.keep e2 (by omega)⟩
      · refine List.nodup_cons.2 ⟨fun hE => ?_, hnd⟩
        have h1 := lt_of_get (hDs D hE).2
        have h2 := hmu1.size
        have h3 := hm2'.size
        omega
    · have d1 : ¬ (i : Int) < ((L.length : Nat) : Int) := by omega
      simp only [vc_seq, vc_cond, vc_exit, vc_ops, vcOps_nil, vcOps_cons, goL_apply, thenQ_normal, thenQ_exit, blockQ_same, condP_false, upd_same, updO_some, ev_tmp, insVc, loadV_some, iopK, iopV, reduceCtorEq, true_and, or_false, decide_false, g43, g44, d1]
      have hz : 0 < u.heap.size := by have := hmwu.size; omega
      refine plays_tail sb mb h0 c map B v' m Ds q from_ now w.heap.size _ u K hAu (hg.mod hmwu id) hz hr (by omega) hbx (by omega) hfr hnow (by simp only [upd_other, ne_eq, not_false_eq_true, Nat.reduceEqDiff, g1]) (by simp only [upd_other, ne_eq, not_false_eq_true, Nat.reduceEqDiff, g2]) (by simp only [upd_other, ne_eq, not_false_eq_true, Nat.reduceEqDiff, g3]) (by simp only [upd_other, ne_eq, not_false_eq_true, Nat.reduceEqDiff, g8]) (by simp only [upd_other, ne_eq, not_false_eq_true, Nat.reduceEqDiff, g9]) (by simp only [upd_other, ne_eq, not_false_eq_true, Nat.reduceEqDiff, g10]) ru (fun D hD => (hDs D hD).2) hnd ?_
      intro w' hm'
      refine h w' (hmwu.then hm' ?_)
      rintro k hk (rfl | hD)
      · omega
      · have := (hDs k hD).1
        have := hm05.size
        omega
end Go.Oct
