import Derived.Test.YtbkddpckkgbbmaaGreatDoorVoC
import Derived.Test.YtbkddpckkgbbmaaGreatDoorVsOrd
import Derived.Test.YtbkddpckkgbbmaaGreatDoorVcO
namespace Go.Oct
open Go Go.Vc Go.VrA
set_option maxRecDepth 100000

/-! ### keys -/

/-- bytealg.MaxLen's cell. -/
def Gl (m : Int) (w : World) : Prop := w.cell? ⟨0, 0, none⟩ = some (.int .i64 m)
theorem Gl.mod {m : Int} {S : Nat → Prop} {w w' : World} (h : Gl m w) (hm : Mod S w w') (hs : ¬ S 0) : Gl m w' := by
  unfold Gl at *
  rw [World.cell?_of_block (hm.get 0 (World.block_lt_of_cell? w _ h) hs)]
  exact h
theorem Gl.lt {m : Int} {w : World} (h : Gl m w) : 0 < w.heap.size := World.block_lt_of_cell? w _ h

theorem IsB.keep {w w' : World} {B b : Nat} {l : List UInt8} (h : IsB w B b l) (hm : Mod (fun _ => False) w w') : IsB w' B b l := by
  have hg : w.grownBy w' none := ⟨hm.os, hm.tape, hm.output, hm.size, fun k hk _ => hm.get k hk id⟩
  rcases h with ⟨h1, v, h2, h3, h4⟩ | ⟨h1, v, h2, h3, h4⟩
  · exact .inl ⟨h1, v, hm.keep h2 id, h3.kept hg (by cases hv : v.ownBlock <;> simp), h4⟩
  · exact .inr ⟨h1, v, hm.keep h2 id, h3.kept hg (by cases hv : v.ownBlock <;> simp), h4⟩

theorem str_c (s : ByteArray) (w : World) (K : Value → World → Prop) (h : ∀ w', Mod (fun _ => False) w w' → K (str s).val w') :
    Ok Proofs.Tryz.prog 51 #[.string s] w K := by
  refine F51.enter (args := [.string s]) (by simp) ?_
  unfold c51 r51
  simp only [vc_seq, vc_ret, vc_ops, vcOps_nil, vcOps_cons, goL_apply, thenQ_normal, upd_same, upd_other, updO_some, updO_none, ev_tmp, ev_const, endQ_ret, endK, resK, resN, resNO_cells, packed, initE_at, insVc, storeNK, storeNO_cells, setMany, buildK, fillL, isPlain, Value.cells, ne_eq, not_false_eq_true, Nat.reduceEqDiff, Nat.reduceAdd, Nat.reduceLeDiff, reduceCtorEq, Option.getD_some, List.getElem?_cons_zero, List.size_toArray, List.length_cons, List.length_nil, List.zipIdx_cons, List.zipIdx_nil, List.foldl_cons, List.foldl_nil, List.setIfInBounds_toArray, List.set_cons_zero, List.set_cons_succ, List.nil_append, List.toList_toArray, true_and, and_self, if_true, Nat.zero_add, Nat.add_zero, Bool.and_true, List.extract_toArray, List.extract_eq_take_drop, List.drop_zero, List.take_zero, List.take_succ_cons, Nat.sub_zero, List.all_toArray', List.all_cons, List.all_nil, size_alloc, get_alloc_new, get_set_same, Nat.lt_add_one, get_alloc_new]
  exact h _ (((Mod.refl _ _).alloc _).set (.inl (Nat.le_refl _)))

theorem num_c (n : Nat) (w : World) (K : Value → World → Prop) (h : ∀ w', Mod (fun _ => False) w w' → K (num' n).val w') :
    Ok Proofs.Tryz.prog 67 #[.int .u64 n] w K := by
  refine F67.enter (args := [.int .u64 n]) (by simp) ?_
  unfold c67 r67
  simp only [vc_seq, vc_ret, vc_ops, vcOps_nil, vcOps_cons, goL_apply, thenQ_normal, upd_same, upd_other, updO_some, updO_none, ev_tmp, endQ_ret, endK, resK, resN, resNO_cells, packed, initE_at, insVc, storeNK, storeNO_cells, setMany, buildK, fillL, isPlain, Value.cells, ne_eq, not_false_eq_true, Nat.reduceEqDiff, Nat.reduceAdd, Nat.reduceLeDiff, reduceCtorEq, Option.getD_some, List.getElem?_cons_zero, List.size_toArray, List.length_cons, List.length_nil, List.zipIdx_cons, List.zipIdx_nil, List.foldl_cons, List.foldl_nil, List.setIfInBounds_toArray, List.set_cons_zero, List.set_cons_succ, List.nil_append, List.toList_toArray, true_and, and_self, if_true, Nat.zero_add, Nat.add_zero, Bool.and_true, List.extract_toArray, List.extract_eq_take_drop, List.drop_zero, List.take_zero, List.take_succ_cons, Nat.sub_zero, List.all_toArray', List.all_cons, List.all_nil, size_alloc, get_alloc_new, get_set_same, Nat.lt_add_one, get_alloc_new]
  exact h _ (((Mod.refl _ _).alloc _).set (.inl (Nat.le_refl _)))

theorem replAll_c (s : ByteArray) (m : Int) (w : World) (K : Value → World → Prop) (hg : Gl m w) (hs : s.size < 4294967281)
    (h : ∀ w', Mod (fun _ => False) w w' → K (.string ⟨(esc s.data.toList).toArray⟩) w') :
    Ok Proofs.Tryz.prog 213 #[.string s, .string ⟨#[0]⟩, .string ⟨#[0, 255]⟩] w K := by
  have hc : Lib.countB s ⟨#[0]⟩ ≤ s.size + 1 := Lib.count_le _ _
  refine ok_of_calls (by kernel_rfl) (Proofs.Tryz.strings_ReplaceAll s ⟨#[0]⟩ ⟨#[0, 255]⟩ m w hs hg (by decide) (by
    have : (⟨#[0, 255]⟩ : ByteArray).size = 2 := rfl
    rw [this]; omega)) ?_
  rintro e w' ⟨rfl, hlo⟩
  refine ⟨_, rfl, ?_⟩
  have he : Lib.replaceAll s.data.toList (⟨#[0]⟩ : ByteArray).data.toList (⟨#[0, 255]⟩ : ByteArray).data.toList = esc s.data.toList := replaceAll_esc _
  rw [he]
  exact h w' (Mod.of_below hlo)

theorem bytes_c (p : Pt) (m : Int) (w : World) (K : Value → World → Prop) (hg : Gl m w) (hp : p.good)
    (h : ∀ w', Mod (fun _ => False) w w' → K (.string ⟨p.bytes.toArray⟩) w') :
    Ok Proofs.Tryz.prog 180 #[p.val] w K := by
  refine F180.enter (args := [p.val]) (by simp) ?_
  unfold c180 r180
  simp only [vc_seq, vc_cond, vc_ops, vcOps_nil, vcOps_cons, goL_apply, thenQ_normal, upd_same, upd_other, updO_some, ev_tmp, ev_const, initE_at, insVc, load1K, loadO_cells, loadV_some, notK, faddrK, Value.cells, ne_eq, not_false_eq_true, Nat.reduceEqDiff, Option.getD_some, List.getElem?_cons_zero, List.getElem?_toArray, Nat.add_zero, get_alloc_new, Pt.val, Pt.cells, get_alloc_new]
  have step : ∀ {w' w''}, (Mod (fun _ => False) w w' ∧ w'.heap[w.heap.size]? = some (.cells #[.bool p.t, .int .u64 p.n, .string p.s] 118 (0, 0))) → Mod (fun _ => False) w' w'' → (Mod (fun _ => False) w w'' ∧ w''.heap[w.heap.size]? = some (.cells #[.bool p.t, .int .u64 p.n, .string p.s] 118 (0, 0))) := fun h hm => ⟨h.1.trans hm, hm.keep h.2 id⟩
  have hC0 : ∀ w', w' = w.alloc (.cells #[.bool p.t, .int .u64 p.n, .string p.s] 118) → (Mod (fun _ => False) w w'.drew ∧ w'.drew.heap[w.heap.size]? = some (.cells #[.bool p.t, .int .u64 p.n, .string p.s] 118 (0, 0))) := by
    rintro w' rfl
    exact ⟨((Mod.refl _ _).alloc _).drew, get_alloc_new _ _⟩
  refine condP_split ?_ ?_
  · intro ht
    have ht' : p.t = false := by simpa using ht
    simp only [vc_seq]
    refine draw_s (fun w' => Mod (fun _ => False) w w' ∧ w'.heap[w.heap.size]? = some (.cells #[.bool p.t, .int .u64 p.n, .string p.s] 118 (0, 0))) (by kernel_rfl) (by kernel_rfl) (by kernel_rfl) (hC0 _ rfl) ?_
    simp only [vc_ret, thenQ_normal, thenQ_ret, upd_same, upd_other, updO_some, ev_tmp, endQ_ret, endK, resK, packed, insVc, sopK, sopV, faddrK, ne_eq, not_false_eq_true, Nat.reduceEqDiff, List.nil_append, Nat.zero_add, vcS_nil, vcS_cons, stepB_true, stepB_false, pureI]
    refine look_call (.string (big 1 1)) (fun w' hw' => ?_) ?_
    · exact wone_c 1 w' _ (by decide) fun w'' hm => ⟨rfl, step hw' hm⟩
    refine look_load (b := w.heap.size) (o := 1) (v := .int .u64 p.n) (by simp only [upd_same, ev_tmp]) (fun w' hw' => ⟨_, _, _, hw'.2, rfl⟩) ?_
    refine look_call (.string (big p.n 8)) (fun w' hw' => ?_) ?_
    · exact weight_c p.n w' _ hp.1 fun w'' hm => ⟨rfl, step hw' hm⟩
    have hmax : ¬ (((big 1 1).size + (big p.n 8).size : Nat) : Int) > IntKind.i64.max := by
      rw [big_size, big_size]; decide
    simp only [loadV_some, if_false, hmax]
    intro w' hw'
    have e : p.bytes.toArray = (big 1 1 ++ big p.n 8).data := by
      simp [Pt.bytes, ht', ByteArray.data_append, big]
    rw [e] at h
    exact h w' hw'.1
  · intro ht
    have ht' : p.t = true := by simpa using ht
    simp only [vc_skip, vc_seq, thenQ_normal]
    refine draw_s (fun w' => Mod (fun _ => False) w w' ∧ w'.heap[w.heap.size]? = some (.cells #[.bool p.t, .int .u64 p.n, .string p.s] 118 (0, 0))) (by kernel_rfl) (by kernel_rfl) (by kernel_rfl) (hC0 _ rfl) ?_
    simp only [vc_ret, thenQ_normal, upd_same, upd_other, updO_some, ev_tmp, ev_const, endQ_ret, endK, resK, packed, insVc, sopK, sopV, faddrK, ne_eq, not_false_eq_true, Nat.reduceEqDiff, List.nil_append, Nat.zero_add, vcS_nil, vcS_cons, stepB_true, stepB_false, pureI]
    refine look_call (.string (big 2 1)) (fun w' hw' => ?_) ?_
    · exact wone_c 2 w' _ (by decide) fun w'' hm => ⟨rfl, step hw' hm⟩
    refine look_load (b := w.heap.size) (o := 2) (v := .string p.s) (by simp only [upd_same, ev_tmp]) (fun w' hw' => ⟨_, _, _, hw'.2, rfl⟩) ?_
    refine look_call (.string ⟨(esc p.s.data.toList).toArray⟩) (fun w' hw' => ?_) ?_
    · exact replAll_c p.s m w' _ (hg.mod hw'.1 id) hp.2 fun w'' hm => ⟨rfl, step hw' hm⟩
    have hes := esc_length p.s.data.toList
    have hsz : p.s.data.toList.length = p.s.size := by rw [Array.length_toList]; rfl
    have h1 : (⟨(esc p.s.data.toList).toArray⟩ : ByteArray).size = (esc p.s.data.toList).length := by simp [ByteArray.size]
    have hmx : IntKind.i64.max = 9223372036854775807 := rfl
    have hp2 := hp.2
    have hmax : ¬ (((big 2 1).size + (⟨(esc p.s.data.toList).toArray⟩ : ByteArray).size : Nat) : Int) > IntKind.i64.max := by
      rw [big_size, h1, hmx]; omega
    have hmax2 : ¬ (((big 2 1 ++ (⟨(esc p.s.data.toList).toArray⟩ : ByteArray)).size + (⟨#[0, 0]⟩ : ByteArray).size : Nat) : Int) > IntKind.i64.max := by
      rw [ByteArray.size_append, big_size, h1, hmx, show (⟨#[0, 0]⟩ : ByteArray).size = 2 from rfl]; omega
    simp only [loadV_some, if_false, hmax, hmax2]
    intro w' hw'
    have e : p.bytes.toArray = (big 2 1 ++ (⟨(esc p.s.data.toList).toArray⟩ : ByteArray) ++ ⟨#[0, 0]⟩).data := by
      simp [Pt.bytes, ht', ByteArray.data_append, big]
    rw [e] at h
    exact h w' hw'.1

/-! #### order.Key -/

def IsPts (w : World) (v : Value) (l : List Pt) : Prop :=
  ∃ g cap cur, v = .slice (some ⟨g, 0, none⟩) l.length cap ∧ w.heap[g]? = some (.cells cur 118 (0, 0)) ∧ cur.toList.take (l.length * 3) = l.flatMap Pt.cells

theorem flat_drop : ∀ (l : List Pt) (j : Nat), (l.flatMap Pt.cells).drop (j * 3) = (l.drop j).flatMap Pt.cells := by
  intro l
  induction l with
  | nil => intro j; simp
  | cons p l ih =>
    intro j
    cases j with
    | zero => simp
    | succ j =>
      have : (j + 1) * 3 = j * 3 + 3 := by omega
      rw [this]
      simp only [List.flatMap_cons, List.drop_succ_cons, ← ih]
      rw [Nat.add_comm, ← List.drop_drop]
      simp [Pt.cells]

theorem pts_at {cur : Array Value} {l : List Pt} (h : cur.toList.take (l.length * 3) = l.flatMap Pt.cells) {j : Nat} {p : Pt} (hj : l[j]? = some p) :
    j * 3 + 3 ≤ cur.size ∧ cur.extract (j * 3) (j * 3 + 3) = p.cells.toArray := by
  obtain ⟨hlt, he⟩ := List.getElem?_eq_some_iff.1 hj
  have hlen : (l.flatMap Pt.cells).length = l.length * 3 := by
    clear h hj he hlt
    induction l with
    | nil => rfl
    | cons p l ih => simp [ih, Pt.cells]; omega
  have hsz : l.length * 3 ≤ cur.size := by
    have := congrArg List.length h
    rw [hlen, List.length_take] at this
    have hs : cur.toList.length = cur.size := Array.length_toList
    omega
  refine ⟨by omega, ?_⟩
  apply Array.ext'
  have e : (cur.extract (j * 3) (j * 3 + 3)).toList = (cur.toList.drop (j * 3)).take 3 := by
    simp [List.take_drop, Nat.add_comm]
  rw [e]
  have e2 : (cur.toList.drop (j * 3)).take 3 = ((cur.toList.take (l.length * 3)).drop (j * 3)).take 3 := by
    rw [List.drop_take, List.take_take]
    congr 1; omega
  rw [e2, h, flat_drop, List.drop_eq_getElem_cons hlt]
  simp [he, Pt.cells]

theorem keyf_c (l : List Pt) (v : Value) (m : Int) (w : World) (K : Value → World → Prop) (hg : Gl m w) (hv : IsPts w v l) (hl : l.length < 2 ^ 60) (hp : ∀ p ∈ l, p.good)
    (h : ∀ w', Mod (fun _ => False) w w' → K (.tuple #[.string (keyL l []).1, .int .i64 (keyL l []).2]) w') :
    Ok Proofs.Tryz.prog 120 #[v] w K := by
  obtain ⟨g, cap, cur, rfl, hg1, hcur⟩ := hv
  refine F120.enter (args := [.slice (some ⟨g, 0, none⟩) l.length cap]) (by simp) ?_
  unfold c120 r120
  have hglt := lt_of_get hg1
  simp only [vc_seq, vc_block, vc_ops, vcOps_nil, vcOps_cons, goL_apply, thenQ_normal, upd_same, upd_other, updO_some, ev_tmp, ev_const, initE_at, insVc, lenLK, Value.cells, ne_eq, not_false_eq_true, reduceCtorEq, Option.getD_some, List.getElem?_cons_zero]
  refine vc_loop (fun m ρ ds w' => ds = [] ∧ ρ 7 = .slice (some ⟨g, 0, none⟩) l.length cap ∧ ρ 8 = .int .i64 l.length ∧ ρ 4 = ptr w.heap.size ∧ Mod (fun _ => False) w w' ∧
    ∃ (i : Nat) (acc : List UInt8), i + m = l.length ∧ ρ 9 = .int .i64 i ∧ IsB w' w.heap.size w.heap.size acc ∧ acc.length ≤ 255 ∧ keyL l [] = keyL (l.drop i) acc) l.length ?_ ?_
  · exact ⟨rfl, by simp only [upd_same, upd_other, ne_eq, not_false_eq_true, Nat.reduceEqDiff], by simp only [upd_same, upd_other, ne_eq, not_false_eq_true, Nat.reduceEqDiff], by simp only [upd_same, upd_other, ne_eq, not_false_eq_true, Nat.reduceEqDiff], (Mod.refl _ _).alloc _, 0, [], by simp, by simp only [upd_same]; rfl, isB_fresh _ _ (get_alloc_new _ _), by simp, by simp⟩
  · rintro k ρ ds w' ⟨rfl, h7, h8, h4, hm, i, acc, him, h9, hb, hacc, hk⟩
    simp only [vc_seq, vc_cond, vc_ops, vcOps_nil, vcOps_cons, goL_apply, thenQ_normal, upd_same, updO_some, ev_tmp, insVc, loadV_some, iopK, iopV, reduceCtorEq, true_and, or_false, h8, h9]
    by_cases hi : (i : Int) < l.length
    · obtain ⟨p, hp1⟩ : ∃ p, l[i]? = some p := ⟨_, List.getElem?_eq_getElem (by omega)⟩
      have hgood : p.good := hp p (List.mem_of_getElem? hp1)
      obtain ⟨hsz, hex⟩ := pts_at hcur hp1
      simp only [vc_skip, vc_seq, vc_block, vc_ops, vcOps_nil, vcOps_cons, goL_apply, thenQ_normal, condP_true, upd_same, upd_other, updO_some, updO_none, ev_tmp, insVc, loadNK, loadNO_cells, storeNK, storeNO_cells, setMany, iaddrK, isPlain, Value.cells, ne_eq, not_false_eq_true, Nat.reduceEqDiff, Nat.reduceAdd, Nat.reduceLeDiff, List.map_cons, List.map_nil, List.size_toArray, List.length_cons, List.length_nil, List.setIfInBounds_toArray, List.set_cons_zero, List.set_cons_succ, true_and, and_true, and_self, Nat.zero_add, decide_true, Bool.and_true, Int.toNat_natCast, List.extract_toArray, List.extract_eq_take_drop, List.drop_zero, List.take_zero, List.take_succ_cons, Nat.sub_zero, List.all_toArray', List.all_cons, List.all_nil, size_alloc, get_alloc_new, get_set_same, Nat.lt_add_one, hi, h7, h9, hm.keep hg1 id, hex, Pt.cells]
      refine ⟨by omega, hsz, ?_⟩
      have hmx : Mod (fun _ => False) w' (Vc.set (w'.alloc (.cells #[.bool false, .int .u64 0, .string ⟨#[]⟩] 118)) w'.heap.size (.cells #[.bool p.t, .int .u64 p.n, .string p.s] 118 (0, 0))) := ((Mod.refl _ _).alloc _).set (.inl (Nat.le_refl _))
      refine bytes_c p m _ _ ((hg.mod hm id).mod hmx id) hgood ?_
      intro w2 hm2
      simp only [vcOps_cons, goL_apply, upd_same, upd_other, updO_some, ev_tmp, insVc, ne_eq, not_false_eq_true, Nat.reduceEqDiff, List.map_cons, List.map_nil, h4]
      have hb2 := (hb.keep hmx).keep hm2
      have hm12 := (hm.trans hmx).trans hm2
      have hpl : p.bytes.length ≤ 2 ^ 34 := by
        have hes := esc_length p.s.data.toList
        have hsz : p.s.data.toList.length = p.s.size := by rw [Array.length_toList]; rfl
        have h2 := hgood.2
        unfold Pt.bytes
        split
        · simp only [List.length_cons, List.length_append, List.length_nil]; omega
        · simp [big]
      have hps : (⟨p.bytes.toArray⟩ : ByteArray).size = p.bytes.length := by simp [ByteArray.size]
      refine wstr_c w.heap.size w.heap.size acc ⟨p.bytes.toArray⟩ w2 _ hb2 (by rw [hps]; omega) hm12.size ?_
      intro w3 hm3 hb3
      simp only [] at hb3
      have hm13 : Mod (fun _ => False) w w3 := hm12.then hm3 (fun i hi hk => by omega)
      simp only [vc_seq, vc_ops, vcOps_nil, vcOps_cons, goL_apply, thenQ_normal, upd_other, updO_some, ev_tmp, insVc, ne_eq, not_false_eq_true, Nat.reduceEqDiff, List.map_cons, List.map_nil, h4]
      refine blen_c w.heap.size w.heap.size _ w3 _ hb3 ?_
      simp only [vc_cond, vcOps_nil, vcOps_cons, goL_apply, thenQ_normal, upd_same, updO_some, ev_tmp, ev_const, insVc, loadV_some, iopK, iopV, reduceCtorEq, true_and, or_false]
      have hkl : keyL (l.drop i) acc = if (acc ++ p.bytes).length > 255 then (e0, 5) else keyL (l.drop (i + 1)) (acc ++ p.bytes) := by
        obtain ⟨hlt, he⟩ := List.getElem?_eq_some_iff.1 hp1
        rw [List.drop_eq_getElem_cons hlt, he]
        rfl
      refine condP_split ?_ ?_
      · intro hgt
        have hgt' := of_decide_eq_true hgt
        rw [if_pos (by omega)] at hkl
        simp only [vc_seq, vc_ret, vc_ops, vcOps_nil, vcOps_cons, goL_apply, thenQ_normal, thenQ_ret, blockQ_ret, upd_same, upd_other, updO_some, ev_const, endQ_ret, endK, resK, packed, insVc, ne_eq, not_false_eq_true, Nat.reduceEqDiff, List.nil_append, List.cons_append]
        rw [hk, hkl] at h
        exact h w3 hm13
      · intro hgt
        have hgt' := of_decide_eq_false hgt
        rw [if_neg (by omega)] at hkl
        simp only [vc_skip, vc_ops, vcOps_nil, vcOps_cons, goL_apply, thenQ_normal, blockQ_normal, upd_same, upd_other, updO_some, ev_tmp, ev_const, insVc, loadV_some, iopK, iopV, ne_eq, not_false_eq_true, Nat.reduceEqDiff, reduceCtorEq, true_and, or_false, h7, h8, h4, h9]
        refine ⟨k - 1, by omega, hm13, i + 1, acc ++ p.bytes, by omega, ?_, hb3, by omega, by rw [hk, hkl]⟩
        rw [wrap_i64 _ (by omega)]; rfl
    · have hil : i = l.length := by omega
      subst hil
      simp only [vc_seq, vc_exit, vc_ops, vcOps_cons, thenQ_normal, thenQ_exit, blockQ_same, condP_false, upd_other, ev_tmp, insVc, ne_eq, not_false_eq_true, Nat.reduceEqDiff, List.map_cons, List.map_nil, decide_false, hi, h4]
      refine bstring_c w.heap.size w.heap.size acc w' _ hb hm.size ?_
      intro w2 hm2
      simp only [vc_ret, vcOps_nil, vcOps_cons, goL_apply, thenQ_normal, upd_same, upd_other, updO_some, ev_tmp, ev_const, endQ_ret, endK, resK, packed, insVc, ne_eq, not_false_eq_true, Nat.reduceEqDiff, List.nil_append, List.cons_append]
      rw [hk, List.drop_of_length_le (Nat.le_refl _)] at h
      exact h w2 (hm.then hm2 (fun i hi hk => by omega))

end Go.Oct
