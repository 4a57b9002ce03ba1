import Derived.Test.YtbkddpckkgbbmaaGreatDoorVzQ
set_option linter.unusedSimpArgs false
set_option linter.unusedVariables false
set_option linter.unusedSectionVars false
set_option linter.unnecessarySimpa false
namespace Go.Oct
open Go Go.Vc Go.VrA Go.VrB Go.VrC Go.VrE
set_option maxRecDepth 100000

/-! ### law 22: MessagePlays, what is looked at behind each call -/

/-- a function's end behind any number of ranges. -/
theorem endK_marks {P : Program} {res : List RV} {K : Value → World → Prop} {ρ : Env} : ∀ (Ds : List Nat) (w : World), (∀ D ∈ Ds, w.heap[D]? = some (.deferred (some []))) → Ds.Nodup →
    (∀ w', Mod (fun k => k ∈ Ds) w w' → resK K ρ w' res []) → endK P res K ρ (Ds.map markD) w := by
  intro Ds
  induction Ds with
  | nil => intro w _ _ h; exact h w (Mod.refl _ _)
  | cons D Ds ih =>
    intro w hd hn h
    have hn' := List.nodup_cons.1 hn
    have h0 := hd D (by simp)
    rw [List.map_cons]
    unfold endK
    simp only [h0, markO]
    have hm : Mod (fun k => k = D) w (Vc.set w D (.deferred none)) := (Mod.refl _ _).set (.inr rfl)
    refine ih _ (fun E hE => hm.keep (hd E (by simp [hE])) (fun e => hn'.1 (e ▸ hE))) hn'.2 ?_
    intro w' hm'
    exact h w' ((hm.mono fun k _ e => by simp [e]).trans (hm'.mono fun k _ e => by simp [e]))

noncomputable def c7k : CC := subC c7 [1, 1, 1, 1, 0, 1, 0, 0, 1, 1, 0, 0, 1, 1, 1]
noncomputable def c7t : CC := subC c7 [1, 1, 1, 1, 1]

theorem termsL_snoc (l : List Ms) (x : Ms) : termsL (l ++ [x]) = termsL l ++ (if x.expiry ≠ 0 then [x] else []) := by
  unfold termsL
  rw [List.filter_append]
  congr 1
  by_cases h : x.expiry = 0 <;> simp [h]
theorem rngM_all (m : M) : rngM [] [] m = m := by
  unfold rngM
  rw [List.filter_eq_self]
  intro p _
  unfold inR
  have : Op.bytesLess p.1 [] = false := by
    rw [Go.Proofs.bytesLess_eq]
    exact decide_eq_false (List.not_lt_nil _)
  rw [this]; rfl

theorem plays_look (sb mb : Nat) (h0 : 0 ≠ mb) (c : Nat) (map : M) (B : List Ms) (v : Value) (m : Int) (ds : List Deferred) (ρ : Env) (w : World) (Q : QT) (hAt : (shelf sb mb h0).At (c, map) w) (hg : Gl m w) (hz : 0 < w.heap.size)
    (hr : Rl B map) (hB : B.length < 2 ^ 18) (hv : IsBx w v B) (h9 : ρ 9 = ptr sb) (h10 : ρ 10 = v)
    (h : ∀ ρ' w' D, Mod (fun _ => False) w w' → w'.heap[D]? = some (.deferred (some [])) → w.heap.size ≤ D → ρ' 0 = ρ 0 → ρ' 1 = ρ 1 → ρ' 2 = ρ 2 → ρ' 3 = ρ 3 → ρ' 8 = ρ 8 → ρ' 9 = ρ 9 → ρ' 10 = ρ 10 → ρ' 42 = ρ 42 → ρ' 43 = ρ 43 → ρ' 44 = ρ 44 → Q .normal ρ' (markD D :: ds) w') :
    vc Proofs.Tryz.prog none 186 c7k Q ρ ds w := by
  have hv' := hv
  obtain ⟨⟨a, cp, rfl⟩, hat⟩ := hv'
  have hpg := pureGet_shelf sb mb h0 (c, map)
  unfold c7k
  simp only [subC, c7, vc_seq, vc_block, vc_ops, vcOps_nil, vcOps_cons, goL_apply, thenQ_normal, upd_same, upd_other, updO_some, ev_tmp, ev_const, insVc, lenLK, ne_eq, not_false_eq_true, Nat.reduceEqDiff, h10]
  refine vc_loop (fun mm ρ2 ds2 u => ∃ j, j ≤ B.length ∧ mm = B.length - j ∧ ds2 = ds ∧ ρ2 0 = ρ 0 ∧ ρ2 1 = ρ 1 ∧ ρ2 2 = ρ 2 ∧ ρ2 3 = ρ 3 ∧ ρ2 8 = ρ 8 ∧ ρ2 9 = ptr sb ∧ ρ2 10 = .slice a B.length cp ∧ ρ2 42 = ρ 42 ∧ ρ2 43 = ρ 43 ∧ ρ2 44 = ρ 44 ∧
    ρ2 14 = .int .i64 (termsL (B.take j)).length ∧ ρ2 58 = .slice a B.length cp ∧ ρ2 59 = .int .i64 B.length ∧ ρ2 60 = .int .i64 j ∧ Mod (fun _ => False) w u) (B.length - 0) ?_ ?_
  · exact ⟨0, Nat.zero_le _, rfl, rfl, by simp only [upd_other, ne_eq, not_false_eq_true, reduceCtorEq], by simp only [upd_other, ne_eq, not_false_eq_true, Nat.reduceEqDiff], by simp only [upd_other, ne_eq, not_false_eq_true, Nat.reduceEqDiff], by simp only [upd_other, ne_eq, not_false_eq_true, Nat.reduceEqDiff], by simp only [upd_other, ne_eq, not_false_eq_true, Nat.reduceEqDiff], by simp only [upd_other, ne_eq, not_false_eq_true, Nat.reduceEqDiff, h9], by simp only [upd_other, ne_eq, not_false_eq_true, Nat.reduceEqDiff, h10], by simp only [upd_other, ne_eq, not_false_eq_true, Nat.reduceEqDiff], by simp only [upd_other, ne_eq, not_false_eq_true, Nat.reduceEqDiff], by simp only [upd_other, ne_eq, not_false_eq_true, Nat.reduceEqDiff], by simp only [upd_same, upd_other, ne_eq, not_false_eq_true, Nat.reduceEqDiff, List.take_zero]; rfl, by simp only [upd_same, upd_other, ne_eq, not_false_eq_true, Nat.reduceEqDiff], by simp only [upd_same, upd_other, ne_eq, not_false_eq_true, Nat.reduceEqDiff], by simp only [upd_same]; rfl, Mod.refl _ _⟩
  · rintro mm ρ2 ds2 u ⟨j, hj, rfl, rfl, g0, g1, g2, g3, g8, g9, g10, g42, g43, g44, g14, g58, g59, g60, hmu⟩
    have hAu := (shelf sb mb h0).keep0 hAt hmu
    have htj : (termsL (B.take j)).length ≤ j := Nat.le_trans (List.length_filter_le _ _) (by rw [List.length_take]; omega)
    by_cases c1 : j < B.length
    · have d1 : (j : Int) < ((B.length : Nat) : Int) := by omega
      obtain ⟨x, hxj⟩ : ∃ x, B[j]? = some x := ⟨B[j], List.getElem?_eq_getElem c1⟩
      obtain ⟨b, o, cc, cur, t, f, he, hb, hsz, hex⟩ := hat j x hxj
      have hbu := hmu.keep hb id
      have ha : a = some ⟨b, o, none⟩ := by simpa using congrArg (fun x => match x with | .slice a _ _ => a | _ => none) he
      subst ha
      have hj0 : (0 : Int) ≤ (j : Int) ∧ (j : Int) < ((B.length : Nat) : Int) := by omega
      have hwj : IntKind.i64.wrap ((j : Int) + 1) = ((j + 1 : Nat) : Int) := by rw [wrap_i64 _ (by omega)]; omega
      have hxB := List.mem_of_getElem? hxj
      have hxf := hr.fit x hxB
      have htk := termsL_snoc (B.take j) x
      have hte : B.take j ++ [x] = B.take (j + 1) := by rw [List.take_add_one, hxj]; rfl
      rw [hte] at htk
      obtain ⟨u1, hu1⟩ : ∃ u1, u1 = Vc.set (u.alloc (.cells #[.string ⟨#[]⟩, .int .u64 0, .int .u32 0, .int .u64 0, .string ⟨#[]⟩] 49)) u.heap.size (.cells #[.string x.queue, .int .u64 x.id, .int .u32 x.tries, .int .u64 x.expiry, .string x.body] 49) := ⟨_, rfl⟩
      have hmu1 : Mod (fun _ => False) u u1 := by rw [hu1]; exact ((Mod.refl _ _).alloc _).set (.inl (Nat.le_refl _))
      have px1 : u1.heap[u.heap.size]? = some (.cells #[.string x.queue, .int .u64 x.id, .int .u32 x.tries, .int .u64 x.expiry, .string x.body] 49 (0, 0)) := by rw [hu1]; exact get_set_same _ _ _ (by simp only [size_alloc]; omega)
      have hmwu1 := hmu.trans hmu1
      simp only [vc_skip, vc_seq, vc_cond, vc_block, vc_ops, vcOps_nil, vcOps_cons, goL_apply, thenQ_normal, condP_true, upd_same, upd_other, updO_some, updO_none, ev_tmp, insVc, load1K, loadO_cells, loadV_some, loadNK, loadNO_cells, storeNK, storeNO_cells, setMany, iopK, iopV, faddrK, iaddrK, isPlain, Value.cells, ne_eq, not_false_eq_true, Nat.reduceEqDiff, Nat.reduceAdd, Nat.reduceLeDiff, reduceCtorEq, List.map_cons, List.map_nil, List.getElem?_cons_zero, List.getElem?_cons_succ, List.getElem?_toArray, List.size_toArray, List.length_cons, List.length_nil, List.setIfInBounds_toArray, List.set_cons_zero, List.set_cons_succ, true_and, or_false, and_self, Nat.zero_add, Nat.add_zero, decide_true, Bool.and_true, Int.toNat_natCast, List.all_toArray', List.all_cons, List.all_nil, size_alloc, get_alloc_new, get_set_same, Nat.lt_add_one, g9, g58, g59, g60, d1, hj0, hbu, hsz, hex, Ms.cells]
      rw [← hu1]
      refine msget_c (shelf sb mb h0) (c, map) hpg x.queue x.id m u1 _ ((shelf sb mb h0).keep0 hAt hmwu1) (hg.mod hmwu1 id) (by have := hxf.qsize; omega) hxf.2.1 (get_size sb mb h0 _ _ (by decide) hr.vals _) ?_
      intro u2 hm2
      rw [mget_shelf sb mb h0 c hr hxB]
      have px2 := hm2.keep px1 id
      have hlt2 := lt_of_get px2
      obtain ⟨u3, hu3⟩ : ∃ u3, u3 = Vc.set (u2.alloc (.cells #[.string ⟨#[]⟩, .int .u64 0, .int .u32 0, .int .u64 0, .string ⟨#[]⟩] 49)) u2.heap.size (.cells #[.string x.queue, .int .u64 x.id, .int .u32 x.tries, .int .u64 x.expiry, .string x.body] 49) := ⟨_, rfl⟩
      have hm3 : Mod (fun _ => False) u2 u3 := by rw [hu3]; exact ((Mod.refl _ _).alloc _).set (.inl (Nat.le_refl _))
      have px3 := hm3.keep px2 id
      have qx3 : u3.heap[u2.heap.size]? = some (.cells #[.string x.queue, .int .u64 x.id, .int .u32 x.tries, .int .u64 x.expiry, .string x.body] 49 (0, 0)) := by rw [hu3]; exact get_set_same _ _ _ (by simp only [size_alloc]; omega)
      have hmw3 := (hmwu1.trans hm2).trans hm3
      simp only [vc_seq, vc_ops, vcOps_nil, vcOps_cons, vcOps_gate, gateK_true, gate_false, goL_apply, thenQ_normal, upd_same, upd_other, updO_some, updO_none, ev_tmp, ev_const, insVc, loadV_some, loadNK, storeNK, storeNO_cells, setMany, iopK, iopV, extK, isPlain, Value.cells, ne_eq, not_false_eq_true, Nat.reduceEqDiff, Nat.reduceAdd, Nat.reduceLeDiff, reduceCtorEq, Bool.not_false, List.getElem?_cons_zero, List.getElem?_cons_succ, List.getElem?_toArray, List.size_toArray, List.length_cons, List.length_nil, List.setIfInBounds_toArray, List.set_cons_zero, List.set_cons_succ, true_and, or_false, and_self, Nat.zero_add, Bool.and_true, Int.reduceBNe, List.all_toArray', List.all_cons, List.all_nil, get_alloc_new, Ms.val, Ms.cells]
      rw [← hu3]
      simp only [vcOps_gate, gateK_true, gate_false, goL_apply, upd_same, upd_other, updO_some, ev_tmp, insVc, loadNK, loadNO_cells, ne_eq, not_false_eq_true, Nat.reduceEqDiff, Nat.reduceAdd, Nat.reduceLeDiff, Bool.not_false, List.size_toArray, List.length_cons, List.length_nil, true_and, Nat.zero_add, List.extract_toArray, List.extract_eq_take_drop, List.drop_zero, List.take_zero, List.take_succ_cons, Nat.sub_zero, px3, qx3]
      refine rawK_neq_ms x rfl rfl rfl rfl rfl ?_
      by_cases hx0 : x.expiry = 0
      · have b0 : (((0 : Nat) : Int) != 0) = false := rfl
        rw [if_neg (by simpa using hx0), List.append_nil] at htk
        simp only [vc_skip, vc_seq, vc_cond, vc_ops, vcOps_nil, vcOps_cons, goL_apply, thenQ_normal, blockQ_normal, condP_false, upd_same, upd_other, updO_some, ev_tmp, ev_const, insVc, pickK, load1K, loadO_cells, loadV_some, iopK, iopV, faddrK, ne_eq, not_false_eq_true, Nat.reduceEqDiff, reduceCtorEq, List.getElem?_cons_zero, List.getElem?_cons_succ, List.getElem?_toArray, true_and, or_false, if_false, Bool.false_eq_true, Nat.zero_add, px3, hx0, b0, g0, g1, g2, g3, g8, g9, g10, g14, g42, g43, g44, g58, g59, g60, hwj]
        exact ⟨B.length - (j + 1), by omega, j + 1, by omega, rfl, by rw [htk], rfl, hmw3⟩
      · have b0 : ((x.expiry : Int) != 0) = true := by simp only [bne_iff_ne, ne_eq]; omega
        rw [if_pos hx0] at htk
        have hwt : IntKind.i64.wrap ((((termsL (B.take j)).length : Nat) : Int) + 1) = (((termsL (B.take (j + 1))).length : Nat) : Int) := by
          rw [wrap_i64 _ (by omega), htk, List.length_append]; simp
        simp only [vc_skip, vc_seq, vc_cond, vc_ops, vcOps_nil, vcOps_cons, goL_apply, thenQ_normal, blockQ_normal, condP_true, condP_false, upd_same, upd_other, updO_some, ev_tmp, ev_const, insVc, pickK, load1K, loadO_cells, loadV_some, iopK, iopV, faddrK, ne_eq, not_false_eq_true, Nat.reduceEqDiff, reduceCtorEq, List.getElem?_cons_zero, List.getElem?_cons_succ, List.getElem?_toArray, true_and, or_false, if_false, Bool.false_eq_true, Nat.zero_add, px3, b0, g0, g1, g2, g3, g8, g9, g10, g14, g42, g43, g44, g58, g59, g60, hwj, hwt]
        exact ⟨B.length - (j + 1), by omega, j + 1, by omega, rfl, rfl, rfl, hmw3⟩
    · have d1 : ¬ (j : Int) < ((B.length : Nat) : Int) := by omega
      have hje : j = B.length := by omega
      rw [hje, List.take_length] at g14 htj
      have hml := hr.length
      obtain ⟨u1, hu1⟩ : ∃ u1, u1 = Vc.set (u.alloc (.cells #[.int .i64 0] 3)) u.heap.size (.cells #[.int .i64 0] 3) := ⟨_, rfl⟩
      have hmu1 : Mod (fun _ => False) u u1 := by rw [hu1]; exact ((Mod.refl _ _).alloc _).set (.inl (Nat.le_refl _))
      have nx1 : u1.heap[u.heap.size]? = some (.cells #[.int .i64 0] 3 (0, 0)) := by rw [hu1]; exact get_set_same _ _ _ (by simp only [size_alloc]; omega)
      have hmwu1 := hmu.trans hmu1
      simp only [vc_seq, vc_cond, vc_exit, vc_ops, vcOps_nil, vcOps_cons, goL_apply, thenQ_normal, thenQ_exit, blockQ_same, condP_false, upd_same, upd_other, updO_some, updO_none, ev_tmp, ev_const, insVc, loadV_some, storeK, storeO_cells, iopK, iopV, isPlain, Value.cells, ne_eq, not_false_eq_true, Nat.reduceEqDiff, Nat.reduceLT, Nat.reduceLeDiff, reduceCtorEq, List.map_cons, List.map_nil, List.size_toArray, List.length_cons, List.length_nil, List.setIfInBounds_toArray, List.set_cons_zero, true_and, or_false, and_self, Nat.zero_add, decide_true, decide_false, Bool.and_false, get_alloc_new, Nat.lt_add_one, g59, g60, d1, g9]
      rw [← hu1]
      have hA1 := (shelf sb mb h0).keep0 hAt hmwu1
      refine rng_c sb mb c map ⟨#[]⟩ ⟨#[]⟩ u1 _ hA1 (by rw [hml]; omega) ?_
      intro u2 gf cap hm2 it
      have erng : rngM (⟨#[]⟩ : ByteArray).data.toList (⟨#[]⟩ : ByteArray).data.toList map = map := rngM_all map
      rw [erng] at it
      have nx2 := hm2.keep nx1 id
      have hmw2 := hmwu1.trans hm2
      have hA2 := (shelf sb mb h0).keep0 hA1 hm2
      have hnf : ∀ k, w.heap.size ≤ k → ¬ (shelf sb mb h0).foot k := fun k hk x => by have := (shelf sb mb h0).footLt (c, map) w _ hAt x; omega
      have hmws := hmu.size
      have hm2s := hm2.size
      have lnx1 := lt_of_get nx1
      have lnx2 := lt_of_get nx2
      simp only [vc_block, vcOps_nil, goL_apply, thenQ_normal, updO_some]
      refine range_iter (by kernel_rfl) (by kernel_rfl) (by kernel_rfl) (gf := gf) (cap := cap) (by simp only [upd_same, ev_tmp]) it
        (fun i X z => Mod (fun k => k = u.heap.size) u2 z ∧ z.heap[u.heap.size]? = some (.cells #[.int .i64 ((i : Nat) : Int)] 3 (0, 0)))
        (fun _ _ _ => False) ?_ ?_ ?_ ?_ ?_ ?_ ?_ ?_
      · intro X z hm _ _
        exact ⟨hm.mono fun _ _ x => x.elim, hm.keep nx2 id⟩
      · rintro i X z ⟨k1, k2⟩
        refine ⟨(shelf sb mb h0).keep _ _ u2 z hA2 k1 (fun k _ hk => hnf k (by omega)), k1.size, fun k hk1 hk2 => k1.get k hk2 (by omega)⟩
      · rintro i X X' a' b' ⟨k1, k2⟩ hX ha' hm hxx
        have hge : ∀ k, X k → u2.heap.size ≤ k := fun k hk => by have := hX k hk; omega
        exact ⟨k1.then hm (fun k hk x => by have := hge k x; omega), hm.keep k2 (fun x => by have := hge _ x; omega)⟩
      · rintro c' X X' a' b' k1; exact k1.elim
      · intro i hi
        rw [List.getElem?_eq_getElem hi]
        simp [rowsV]
      · intro i hi X a' ⟨k1, k2⟩ hX ha'
        have hil : i < map.length := by simpa [rowsV, okRows] using hi
        obtain ⟨p, hp⟩ : ∃ p, map[i]? = some p := ⟨map[i], List.getElem?_eq_getElem hil⟩
        have hrow : ((rowsV (okRows map))[i]?.getD []) = [.agg #[.string ⟨p.1.toArray⟩, .string ⟨p.2.toArray⟩], .int .i64 0] := by simp [rowsV, okRows, hp]
        have hpm := List.mem_of_getElem? hp
        have hwi : IntKind.i64.wrap ((i : Int) + 1) = ((i + 1 : Nat) : Int) := by rw [wrap_i64 _ (by omega)]; omega
        rw [hrow]
        simp only [vc_seq, vc_block, vc_ops, vcOps_nil, vcOps_cons, goL_apply, upd_same, upd_other, updO_some, updO_none, ev_tmp, insVc, load1K, storeNK, storeNO_cells, setMany, isPlain, Value.cells, ne_eq, not_false_eq_true, Nat.reduceEqDiff, Nat.reduceAdd, Nat.reduceLeDiff, List.size_toArray, List.length_cons, List.length_nil, List.setIfInBounds_toArray, List.set_cons_zero, List.set_cons_succ, true_and, and_self, Nat.zero_add, Bool.and_true, List.all_toArray', List.all_cons, List.all_nil, get_alloc_new, updMany]
        refine ⟨((Mod.refl _ _).alloc _).set (.inl (Nat.le_refl _)), ?_⟩
        rintro z hmz ⟨k3, k4⟩
        have hxa : ¬ X a'.heap.size := fun x => by have := (hX _ x).2; omega
        have pz := hmz.keep (get_set_same _ _ (.cells #[.string ⟨p.1.toArray⟩, .string ⟨p.2.toArray⟩] 29 (0, 0)) (by rw [size_alloc]; omega)) hxa
        have hge : ∀ k, X k → u2.heap.size ≤ k ∧ k < z.heap.size := fun k hk => by have := hX k hk; have := hmz.size; simp only [size_set, size_alloc] at this; omega
        have l4 := lt_of_get k4
        have hza : a'.heap.size < z.heap.size := lt_of_get pz
        have ha's : u2.heap.size ≤ a'.heap.size := by omega
        obtain ⟨z1, hz1⟩ : ∃ z1, z1 = Vc.set z u.heap.size (.cells #[.int .i64 ((i + 1 : Nat) : Int)] 3) := ⟨_, rfl⟩
        have hmz1 : Mod (fun k => k = u.heap.size) z z1 := by rw [hz1]; exact (Mod.refl _ _).set (.inr rfl)
        have nz1 : z1.heap[u.heap.size]? = some (.cells #[.int .i64 ((i + 1 : Nat) : Int)] 3 (0, 0)) := by rw [hz1]; exact get_set_same _ _ _ l4
        have pz1 := hmz1.keep pz (by omega)
        simp only [vc_seq, vc_ops, vcOps_nil, vcOps_cons, goL_apply, thenQ_normal, upd_same, upd_other, updO_some, updO_none, ev_tmp, ev_const, insVc, load1K, loadO_cells, loadV_some, storeK, storeO_cells, iopK, iopV, faddrK, isPlain, ne_eq, not_false_eq_true, Nat.reduceEqDiff, Nat.reduceLT, Nat.reduceLeDiff, reduceCtorEq, List.getElem?_cons_zero, List.getElem?_toArray, List.size_toArray, List.length_cons, List.length_nil, List.setIfInBounds_toArray, List.set_cons_zero, true_and, or_false, and_self, Nat.zero_add, Nat.add_zero, decide_true, decide_false, Bool.and_false, Nat.lt_add_one, k4, hwi]
        rw [← hz1]
        simp only [vcOps_cons, goL_apply, upd_same, updO_some, ev_tmp, insVc, loadO_cells, loadV_some, List.map_cons, List.map_nil, List.getElem?_cons_zero, List.getElem?_toArray, pz1]
        refine parse_c _ z1 _ ?_
        intro z2 hmz2
        have pz2 := hmz2.keep pz1 id
        have nz2 := hmz2.keep nz1 id
        have fin : ∀ z3, Mod (fun _ => False) z2 z3 → (z.heap.size ≤ z3.heap.size ∧ ∀ k, X k → z3.heap[k]? = z.heap[k]?) ∧ (Mod (fun k => k = u.heap.size) u2 z3 ∧ z3.heap[u.heap.size]? = some (.cells #[.int .i64 ((i + 1 : Nat) : Int)] 3 (0, 0))) := by
          intro z3 hm3
          have hmm : Mod (fun k => k = u.heap.size) z z3 := hmz1.then (hmz2.trans hm3) (fun _ _ x => x.elim)
          refine ⟨⟨hmm.size, fun k hk => hmm.get k (hge k hk).2 (by have := (hge k hk).1; omega)⟩, k3.trans hmm, hm3.keep nz2 id⟩
        have hlz : a'.heap.size < z2.heap.size := lt_of_get pz2
        have lnz2 := lt_of_get nz2
        have key : ∀ (sort queue : ByteArray) (id at_ : Nat), parseR ⟨p.1.toArray⟩ = ({ th0 with sort := sort, at_ := at_, queue := queue, id := id }, 0) → (sort.toList == (⟨#[101]⟩ : ByteArray).toList) = true → p.2 = [] → True := fun _ _ _ _ _ _ _ => trivial
        clear key
        rcases (hr.mem p).1 hpm with ⟨y, hy, rfl⟩ | ⟨y, hy, hy0, rfl⟩
        · have hyf := hr.fit y hy
          have hpar : parseR ⟨(mP y).1.toArray⟩ = _ := parse_mkey y.queue y.id hyf.1.1 hyf.2.1
          rw [hpar]
          have b1 : ((⟨#[109]⟩ : ByteArray).toList == (⟨#[101]⟩ : ByteArray).toList) = false := by simp [ByteArray.toList_eq]
          obtain ⟨z3, hz3⟩ : ∃ z3, z3 = Vc.set (z2.alloc (.cells #[.string ⟨#[]⟩, .string ⟨#[]⟩, .int .u64 0, .int .u64 0, .string ⟨#[]⟩, .int .i64 0, .string ⟨#[]⟩, .string ⟨#[]⟩, .string ⟨#[]⟩] 98)) z2.heap.size (.cells #[.string ⟨#[109]⟩, .string y.queue, .int .u64 y.id, .int .u64 ((0 : Nat) : Int), .string e0, .int .i64 ((0 : Nat) : Int), .string e0, .string e0, .string e0] 98) := ⟨_, rfl⟩
          have hmz3 : Mod (fun _ => False) z2 z3 := by rw [hz3]; exact ((Mod.refl _ _).alloc _).set (.inl (Nat.le_refl _))
          have tz3 : z3.heap[z2.heap.size]? = some (.cells #[.string ⟨#[109]⟩, .string y.queue, .int .u64 y.id, .int .u64 ((0 : Nat) : Int), .string e0, .int .i64 ((0 : Nat) : Int), .string e0, .string e0, .string e0] 98 (0, 0)) := by rw [hz3]; exact get_set_same _ _ _ (by simp only [size_alloc]; omega)
          simp only [vc_seq, vc_ops, vcOps_nil, vcOps_cons, vcOps_gate, gateK_true, gate_true, gate_false, goL_apply, thenQ_normal, upd_same, upd_other, updO_some, updO_none, ev_tmp, ev_const, insVc, load1K, loadO_cells, loadV_some, storeNK, storeNO_cells, setMany, iopK, iopV, sopK, sopV, faddrK, extK, isPlain, Value.cells, ne_eq, not_false_eq_true, Nat.reduceEqDiff, Nat.reduceAdd, Nat.reduceLeDiff, reduceCtorEq, Bool.not_false, List.getElem?_cons_zero, List.getElem?_cons_succ, List.getElem?_toArray, List.size_toArray, List.length_cons, List.length_nil, List.setIfInBounds_toArray, List.set_cons_zero, List.set_cons_succ, true_and, or_false, and_self, Nat.zero_add, Nat.add_zero, Bool.and_true, Int.reduceBNe, List.all_toArray', List.all_cons, List.all_nil, size_alloc, get_alloc_new, get_set_same, Nat.lt_add_one, Th.val, Th.cells, th0]
          rw [← hz3]
          simp only [vc_skip, vc_cond, vcOps_nil, vcOps_cons, vcOps_gate, gateK_true, gateK_false, gate_true, gate_false, goL_apply, thenQ_normal, blockQ_normal, condP_false, upd_same, upd_other, updO_some, ev_tmp, ev_const, insVc, pickK, ne_eq, not_false_eq_true, Nat.reduceEqDiff, reduceCtorEq, Bool.not_false, true_and, if_false, Bool.false_eq_true, b1]
          obtain ⟨f1, f2⟩ := fin z3 hmz3
          exact ⟨f1, .inl f2⟩
        · have hyf := hr.fit y hy
          have hpar : parseR ⟨(tP y).1.toArray⟩ = _ := parse_tkey2 y.expiry y.queue y.id (hyf.1.2 hy0) hyf.2.2.1 hyf.2.1
          rw [hpar]
          have b1 : ((⟨#[101]⟩ : ByteArray).toList == (⟨#[101]⟩ : ByteArray).toList) = true := by simp
          have b2 : (!((⟨(tP y).2.toArray⟩ : ByteArray).toList == (⟨#[]⟩ : ByteArray).toList)) = false := by simp [tP]
          obtain ⟨z3, hz3⟩ : ∃ z3, z3 = Vc.set (z2.alloc (.cells #[.string ⟨#[]⟩, .string ⟨#[]⟩, .int .u64 0, .int .u64 0, .string ⟨#[]⟩, .int .i64 0, .string ⟨#[]⟩, .string ⟨#[]⟩, .string ⟨#[]⟩] 98)) z2.heap.size (.cells #[.string ⟨#[101]⟩, .string y.queue, .int .u64 y.id, .int .u64 y.expiry, .string e0, .int .i64 ((0 : Nat) : Int), .string e0, .string e0, .string e0] 98) := ⟨_, rfl⟩
          have hmz3 : Mod (fun _ => False) z2 z3 := by rw [hz3]; exact ((Mod.refl _ _).alloc _).set (.inl (Nat.le_refl _))
          have tz3 : z3.heap[z2.heap.size]? = some (.cells #[.string ⟨#[101]⟩, .string y.queue, .int .u64 y.id, .int .u64 y.expiry, .string e0, .int .i64 ((0 : Nat) : Int), .string e0, .string e0, .string e0] 98 (0, 0)) := by rw [hz3]; exact get_set_same _ _ _ (by simp only [size_alloc]; omega)
          have pz3 := hmz3.keep pz2 id
          simp only [vc_seq, vc_ops, vcOps_nil, vcOps_cons, vcOps_gate, gateK_true, gate_true, gate_false, goL_apply, thenQ_normal, upd_same, upd_other, updO_some, updO_none, ev_tmp, ev_const, insVc, load1K, loadO_cells, loadV_some, storeNK, storeNO_cells, setMany, iopK, iopV, sopK, sopV, faddrK, extK, isPlain, Value.cells, ne_eq, not_false_eq_true, Nat.reduceEqDiff, Nat.reduceAdd, Nat.reduceLeDiff, reduceCtorEq, Bool.not_false, List.getElem?_cons_zero, List.getElem?_cons_succ, List.getElem?_toArray, List.size_toArray, List.length_cons, List.length_nil, List.setIfInBounds_toArray, List.set_cons_zero, List.set_cons_succ, true_and, or_false, and_self, Nat.zero_add, Nat.add_zero, Bool.and_true, Int.reduceBNe, List.all_toArray', List.all_cons, List.all_nil, size_alloc, get_alloc_new, get_set_same, Nat.lt_add_one, Th.val, Th.cells, th0]
          rw [← hz3]
          simp only [vc_skip, vc_cond, vcOps_nil, vcOps_cons, vcOps_gate, gateK_true, gate_true, gate_false, goL_apply, thenQ_normal, blockQ_normal, condP_false, upd_same, upd_other, updO_some, ev_tmp, ev_const, insVc, pickK, load1K, loadO_cells, loadV_some, sopK, sopV, faddrK, ne_eq, not_false_eq_true, Nat.reduceEqDiff, reduceCtorEq, Bool.not_false, List.getElem?_cons_zero, List.getElem?_cons_succ, List.getElem?_toArray, true_and, if_true, if_false, Bool.false_eq_true, Nat.zero_add, b1, pz3, b2]
          obtain ⟨f1, f2⟩ := fin z3 hmz3
          exact ⟨f1, .inl f2⟩
      · rintro X z ⟨k1, k2⟩ ⟨e1, e2, e3⟩
        have hlen : (rowsV (okRows map)).length = map.length := by simp [rowsV, okRows]
        rw [hlen] at k2
        have hsum : IntKind.i64.wrap (((B.length : Nat) : Int) + (((termsL B).length : Nat) : Int)) = ((map.length : Nat) : Int) := by rw [wrap_i64 _ (by omega), hml]; omega
        have bq : (((map.length : Nat) : Int) != ((map.length : Nat) : Int)) = false := by simp
        simp only [vc_skip, vc_seq, vc_cond, vc_ops, vcOps_nil, vcOps_cons, goL_apply, thenQ_normal, blockQ_normal, condP_false, upd_same, upd_other, updO_some, ev_tmp, insVc, load1K, loadO_cells, loadV_some, iopK, iopV, lenLK, ne_eq, not_false_eq_true, Nat.reduceEqDiff, reduceCtorEq, List.getElem?_cons_zero, List.getElem?_toArray, true_and, or_false, k2, g10, g14, hsum, bq]
        refine h _ z u2.heap.size ?_ e1 (by omega) (by simp only [upd_other, ne_eq, not_false_eq_true, reduceCtorEq, g0]) (by simp only [upd_other, ne_eq, not_false_eq_true, Nat.reduceEqDiff, g1]) (by simp only [upd_other, ne_eq, not_false_eq_true, Nat.reduceEqDiff, g2]) (by simp only [upd_other, ne_eq, not_false_eq_true, Nat.reduceEqDiff, g3]) (by simp only [upd_other, ne_eq, not_false_eq_true, Nat.reduceEqDiff, g8]) (by simp only [upd_other, ne_eq, not_false_eq_true, Nat.reduceEqDiff, g9, h9]) (by simp only [upd_other, ne_eq, not_false_eq_true, Nat.reduceEqDiff, g10, h10]) (by simp only [upd_other, ne_eq, not_false_eq_true, Nat.reduceEqDiff, g42]) (by simp only [upd_other, ne_eq, not_false_eq_true, Nat.reduceEqDiff, g43]) (by simp only [upd_other, ne_eq, not_false_eq_true, Nat.reduceEqDiff, g44])
        exact hmw2.then k1 (fun k hk x => by omega)
      · rintro c' X z k1; exact k1.elim
end Go.Oct
