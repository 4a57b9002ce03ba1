import Derived.Test.YtbkddpckkgbbmaaGreatDoorVqN
set_option linter.unusedSimpArgs false
set_option linter.unusedVariables false
set_option linter.unusedSectionVars false
set_option linter.unnecessarySimpa false
namespace Go.Oct
open Go Go.Vc Go.VrA Go.VrB Go.VrC
set_option maxRecDepth 100000

/-! ### law 22: MessageRows, what is due by the reference -/

theorem rows_tP (sb mb : Nat) (h0 : 0 ≠ mb) (c : Nat) {B : List Ms} {m : M} {x : Ms} {now : Nat} (hr : Rel B m) (hq : x.queue.size ≤ 100) (hi : x.id < 2 ^ 64) (he : x.expiry < 2 ^ 64) (he0 : x.expiry ≠ 0) (hn : now < 2 ^ 64) :
    ∀ r ∈ (shelf sb mb h0).dueRows (c, putM (tk x) [] m) now, ∃ y : Ms, r.1 = tP y ∧ y.queue.size ≤ 100 ∧ y.expiry < 2 ^ 64 ∧ y.id < 2 ^ 64 := by
  have hDm := due_mem now hr.sortB
  have hD : ∀ y ∈ dueR now B, y.queue.size ≤ 100 ∧ y.expiry < 2 ^ 64 ∧ y.id < 2 ^ 64 := fun y hy => by
    have := hr.fine y ((hDm y).1 hy).1
    exact ⟨this.1, this.2.2.1, this.2.1⟩
  have hrows : (shelf sb mb h0).dueRows (c, putM (tk x) [] m) now = okRows (rngM [2, 101, 0, 0] (hiL now) (putM (tk x) [] m)) := by
    unfold Sto.dueRows
    rw [under_e]
    show okRows (rngM _ (dueTo now).data.toList _) = _
    rw [dueTo_eq]
  obtain ⟨hA, hB⟩ := rng_due hr hq hi he he0 hn
  rw [hrows]
  intro r hr'
  obtain ⟨p, hp, rfl⟩ := List.mem_map.1 hr'
  show ∃ y : Ms, p = tP y ∧ _
  by_cases hc : Right B x ∨ now < x.expiry
  · rw [hA hc] at hp
    obtain ⟨y, hy, rfl⟩ := List.mem_map.1 hp
    exact ⟨y, rfl, hD y hy⟩
  · rw [hB (fun e => hc (.inl e)) (by have : ¬ now < x.expiry := fun e => hc (.inr e); omega)] at hp
    rcases List.mem_append.1 hp with hp | hp
    · obtain ⟨y, hy, rfl⟩ := List.mem_map.1 hp
      exact ⟨y, rfl, hD y (List.mem_filter.1 hy).1⟩
    · rcases List.mem_cons.1 hp with rfl | hp
      · exact ⟨x, rfl, hq, he, hi⟩
      · obtain ⟨y, hy, rfl⟩ := List.mem_map.1 hp
        exact ⟨y, rfl, hD y (List.mem_filter.1 hy).1⟩

theorem mrows_mid (B : List Ms) (map : M) (c : Nat) (x : Ms) (now most : Nat) (m : Int) (r0 : Bool) (xb ob rb b16 sb mb : Nat) (h0 : 0 ≠ mb) (v' : Value) (ρ : Env) (w0 w : World) (K : Value → World → Prop) (hmost : most < 256) (hn : now < 2 ^ 64) (hBl : B.length ≤ 20)
    (hr : Rel B map) (hml : map.length ≤ 40) (hq : x.queue.size ≤ 100) (hi : x.id < 2 ^ 64) (he : x.expiry < 2 ^ 64) (he0 : x.expiry ≠ 0) (hr0 : r0 = true ↔ Right B x)
    (hAt : (shelf sb mb h0).At (c + 1, putM (tk x) [] map) w) (hg : Gl m w) (hm0 : Mod (fun _ => False) w0 w) (hv : IsBx w v' B)
    (r2 : ρ 2 = .int .u64 now) (h5 : ρ 5 = .pointer (some ⟨xb, 0, none⟩)) (h7 : ρ 7 = .pointer (some ⟨ob, 0, none⟩)) (h8 : ρ 8 = .pointer (some ⟨rb, 0, none⟩)) (h9 : ρ 9 = ptr sb) (h10 : ρ 10 = v') (h14 : ρ 14 = .string ⟨(tk x).toArray⟩) (h16 : ρ 16 = .pointer (some ⟨b16, 0, none⟩))
    (hx : w.heap[xb]? = some (.cells #[.string x.queue, .int .u64 x.id, .int .u32 x.tries, .int .u64 x.expiry, .string x.body] 49 (0, 0))) (ho : w.heap[ob]? = some (.cells #[.int .u8 most] 5 (0, 0))) (hrb : w.heap[rb]? = some (.cells #[.bool false] 4 (0, 0))) (hb16 : w.heap[b16]? = some (.cells #[.bool r0] 4 (0, 0)))
    (hrb0 : w0.heap.size ≤ rb) (hb160 : w0.heap.size ≤ b16) (hne : rb ≠ b16) (hz : 0 < w0.heap.size)
    (h : ∀ w', Mod (fun _ => False) w0 w' → K (.bool true) w') :
    vc Proofs.Tryz.prog none 202 c4t (endQ Proofs.Tryz.prog r4 K) ρ [] w := by
  have hct : c4t = .seq (subC c4 [1, 1, 1, 1, 1, 1, 1, 1, 1, 1, 0]) (.seq (subC c4 [1, 1, 1, 1, 1, 1, 1, 1, 1, 1, 1, 0]) c4u) := rfl
  rw [hct]
  simp only [subC, c4, vc_seq, vc_ops, vcOps_cons, goL_apply, upd_same, upd_other, updO_some, ev_tmp, insVc, ne_eq, not_false_eq_true, Nat.reduceEqDiff, List.map_cons, List.map_nil, h10, r2]
  refine rdue_c B now v' w _ hv (by omega) ?_
  intro w1 v17 hm1 ho17
  have hx1 := hm1.keep hx id
  have ho1 := hm1.keep ho id
  have hrb1 := hm1.keep hrb id
  have hb1 := hm1.keep hb16 id
  have hDl : (dueR now B).length ≤ 20 := by
    have : ∀ (l acc : List Ms), (l.foldl (dueStep now) acc).length ≤ acc.length + l.length := by
      intro l
      induction l with
      | nil => intro acc; simp
      | cons y r ih =>
        intro acc
        rw [List.foldl_cons]
        have := ih (dueStep now acc y)
        have h2 : (dueStep now acc y).length ≤ acc.length + 1 := by
          unfold dueStep
          split
          · omega
          · rw [insD_length]; omega
        rw [List.length_cons]; omega
    have := this B []
    rw [List.length_nil] at this
    unfold dueR; omega
  obtain ⟨w2, hw2⟩ : ∃ w2, w2 = Vc.set (w1.alloc (.cells #[.slice none 0 0] 47)) w1.heap.size (.cells #[v17] 47) := ⟨_, rfl⟩
  have hm2 : Mod (fun _ => False) w1 w2 := by rw [hw2]; exact ((Mod.refl _ _).alloc _).set (.inl (Nat.le_refl _))
  have d2 : w2.heap[w1.heap.size]? = some (.cells #[v17] 47 (0, 0)) := by rw [hw2]; exact get_set_same _ _ _ (by rw [size_alloc]; omega)
  have hx2 := hm2.keep hx1 id
  have ho2 := hm2.keep ho1 id
  have hrb2 := hm2.keep hrb1 id
  have hb2 := hm2.keep hb1 id
  have hm02 := (hm0.trans hm1).trans hm2
  have hA2 := (shelf sb mb h0).keep0 hAt (hm1.trans hm2)
  have hG2 := hg.mod (hm1.trans hm2) id
  have hpl : isPlain v17 = true := v5_plain ho17
  have ho172 := own_keep' ho17 hm2 (fun _ _ x => x)
  have hpure := pureGet_shelf sb mb h0 (c + 1, putM (tk x) [] map)
  have hplen : (putM (tk x) [] map).length ≤ 41 := by have := put_length (tk x) [] map; omega
  have hprng := pure_shelf sb mb h0 (c + 1, putM (tk x) [] map) (show (putM (tk x) [] map).length * 16 ≤ 140737488355328 by omega)
  have hvals : ∀ p ∈ putM (tk x) [] map, p.2.length < 2 ^ 60 := by
    intro p hp
    rcases mem_put.1 hp with rfl | ⟨hp, _⟩
    · exact (by decide : ([] : List UInt8).length < 2 ^ 60)
    · rcases (hr.mem p).1 hp with ⟨y, hy, rfl⟩ | ⟨y, hy, _, rfl⟩
      · have e : (mbytes y).data.toList.length = (mbytes y).size := by rw [Array.length_toList]; rfl
        have := mbytes_size y (hr.fine y hy)
        show (mbytes y).data.toList.length < 2 ^ 60
        omega
      · exact (by decide : ([] : List UInt8).length < 2 ^ 60)
  have hR : ∀ r ∈ (shelf sb mb h0).dueRows (c + 1, putM (tk x) [] map) now, (parseR ⟨r.1.1.toArray⟩).1.queue.size < 4294967281 ∧ (parseR ⟨r.1.1.toArray⟩).1.id < 2 ^ 64 ∧ ((shelf sb mb h0).get (c + 1, putM (tk x) [] map) (messageK (parseR ⟨r.1.1.toArray⟩).1.queue (parseR ⟨r.1.1.toArray⟩).1.id).1).1.1.size < 2 ^ 60 := by
    intro r hr'
    obtain ⟨y, e, y1, y2, y3⟩ := rows_tP sb mb h0 (c + 1) hr hq hi he he0 hn r hr'
    rw [e]
    show (parseR ⟨(tkey y.expiry y.queue y.id).toArray⟩).1.queue.size < 4294967281 ∧ (parseR ⟨(tkey y.expiry y.queue y.id).toArray⟩).1.id < 2 ^ 64 ∧ ((shelf sb mb h0).get (c + 1, putM (tk x) [] map) (messageK (parseR ⟨(tkey y.expiry y.queue y.id).toArray⟩).1.queue (parseR ⟨(tkey y.expiry y.queue y.id).toArray⟩).1.id).1).1.1.size < 2 ^ 60
    rw [parse_tkey _ _ _ y1 y2 y3]
    exact ⟨by show y.queue.size < _; omega, y3, get_size sb mb h0 _ _ (by decide) hvals _⟩
  obtain ⟨hdA, hdB⟩ := due_stray sb mb h0 (c + 1) hr hq hi he he0 hn
  have final : ∀ (rt : Bool) (D : List Ms) (v : Value) (ρ3 : Env) (w3 : World), dueL (shelf sb mb h0) (c + 1, putM (tk x) [] map) ((shelf sb mb h0).dueRows (c + 1, putM (tk x) [] map) now) = rowsOf D rt → D.length ≤ 20 → IsBx w3 v D → (∀ k, v.ownBlock = some k → k < w3.heap.size) →
      (shelf sb mb h0).At (c + 1, putM (tk x) [] map) w3 → Gl m w3 → Mod (fun _ => False) w0 w3 →
      ρ3 2 = .int .u64 now → ρ3 7 = .pointer (some ⟨ob, 0, none⟩) → ρ3 8 = .pointer (some ⟨rb, 0, none⟩) → ρ3 9 = ptr sb → ρ3 16 = .pointer (some ⟨b16, 0, none⟩) → ρ3 17 = .pointer (some ⟨w1.heap.size, 0, none⟩) →
      w3.heap[ob]? = some (.cells #[.int .u8 most] 5 (0, 0)) → w3.heap[rb]? = some (.cells #[.bool false] 4 (0, 0)) → w3.heap[b16]? = some (.cells #[.bool rt] 4 (0, 0)) → w3.heap[w1.heap.size]? = some (.cells #[v] 47 (0, 0)) →
      vc Proofs.Tryz.prog none 202 c4u (endQ Proofs.Tryz.prog r4 K) ρ3 [] w3 := by
    intro rt D v ρ3 w3 g1 g2 g3 g4 g5 g6 g7 g8 g9 g10 g11 g12 g13 g14 g15 g16 g17
    exact mrows_row (shelf sb mb h0) _ hpure hprng D now most m rt ob rb b16 w1.heap.size sb v ρ3 w0 w3 K hmost hn (by omega) rfl rfl g5 g6 g7 hR g1 g3 g4 g8 g9 g10 g11 g12 g13 g14 g15 g16 g17 hrb0 hz h
  -- where the row is what the reference says
  have right : ∀ (ρ3 : Env), (Right B x ∨ now < x.expiry) →
      ρ3 2 = .int .u64 now → ρ3 7 = .pointer (some ⟨ob, 0, none⟩) → ρ3 8 = .pointer (some ⟨rb, 0, none⟩) → ρ3 9 = ptr sb → ρ3 16 = .pointer (some ⟨b16, 0, none⟩) → ρ3 17 = .pointer (some ⟨w1.heap.size, 0, none⟩) →
      vc Proofs.Tryz.prog none 202 c4u (endQ Proofs.Tryz.prog r4 K) ρ3 [] (Vc.set w2 b16 (.cells #[.bool true] 4)) := by
    intro ρ3 hc g8 g9 g10 g11 g12 g13
    have hm3 : Mod (fun k => k = b16) w2 (Vc.set w2 b16 (.cells #[.bool true] 4)) := (Mod.refl _ _).set (.inr rfl)
    have l16 := lt_of_get hb16
    have lz1 := hm1.size
    refine final true (dueR now B) v17 ρ3 _ ?_ hDl (IsBx.mod (IsBx.own ho172) hm3 ?_) ?_ ?_ (hG2.mod hm3 (by omega)) (hm02.then hm3 (fun k hk e => by omega)) g8 g9 g10 g11 g12 g13 (hm3.keep ho2 ?_) (hm3.keep hrb2 hne) (get_set_same _ _ _ (lt_of_get hb2)) (hm3.keep d2 (by omega))
    · rw [hdA hc]; simp [rowsOf]
    · intro k hk e
      have := World.ownsRow.lt ho17 k hk
      omega
    · intro k hk
      have := World.ownsRow.lt ho172 k hk
      have := hm3.size
      omega
    · refine (shelf sb mb h0).keep _ _ w2 _ hA2 hm3 (fun k _ hk hf => ?_)
      subst hk
      rcases hf with rfl | rfl
      · have := hA2.1
        rw [hb2] at this
        simp at this
      · obtain ⟨es, clock, hb, _⟩ := hA2.2.1
        rw [hb2] at hb; cases hb
    · rintro rfl
      rw [hb2] at ho2
      simp at ho2
  simp only [vc_seq, vc_ops, vcOps_nil, vcOps_cons, goL_apply, thenQ_normal, upd_same, upd_other, updO_some, updO_none, ev_tmp, insVc, load1K, storeK, storeO_cells, isPlain, Value.cells, ne_eq, not_false_eq_true, Nat.reduceEqDiff, Nat.reduceLT, Nat.reduceLeDiff, List.size_toArray, List.length_cons, List.length_nil, List.setIfInBounds_toArray, List.set_cons_zero, true_and, Nat.zero_add, decide_true, decide_false, Bool.and_false, get_alloc_new, Nat.lt_add_one, h16]
  rw [← hw2]
  simp only [vcOps_cons, vcOps_gate, gate_true, goL_apply, upd_same, updO_some, ev_tmp, insVc, loadO_cells, loadV_some, notK, List.getElem?_cons_zero, List.getElem?_toArray, hb2]
  cases r0 with
  | true =>
    simp only [vc_cond, vc_ops, vcOps_nil, vcOps_cons, vcOps_gate, gateK_false, gate_true, goL_apply, thenQ_normal, condP_false, upd_same, upd_other, updO_some, updO_none, ev_tmp, ev_const, insVc, pickK, storeK, storeO_cells, isPlain, ne_eq, not_false_eq_true, Nat.reduceEqDiff, Nat.reduceLT, Nat.reduceLeDiff, Bool.not_true, List.size_toArray, List.length_cons, List.length_nil, List.setIfInBounds_toArray, List.set_cons_zero, true_and, and_self, if_false, Bool.false_eq_true, Nat.zero_add, decide_true, decide_false, Bool.and_false, Nat.lt_add_one, h16, hb2]
    refine ⟨hpl, right _ (.inl (hr0.1 rfl)) ?_ ?_ ?_ ?_ ?_ ?_⟩
    · simp only [upd_other, ne_eq, not_false_eq_true, Nat.reduceEqDiff, r2]
    · simp only [upd_other, ne_eq, not_false_eq_true, Nat.reduceEqDiff, h7]
    · simp only [upd_other, ne_eq, not_false_eq_true, Nat.reduceEqDiff, h8]
    · simp only [upd_other, ne_eq, not_false_eq_true, Nat.reduceEqDiff, h9]
    · simp only [upd_other, ne_eq, not_false_eq_true, Nat.reduceEqDiff, h16]
    · simp only [upd_same, upd_other, ne_eq, not_false_eq_true, Nat.reduceEqDiff]
  | false =>
    have hnr : ¬ Right B x := fun e => by have := hr0.2 e; cases this
    by_cases hle : x.expiry ≤ now
    · have e1 : (x.expiry : Int) ≤ (now : Int) := by omega
      simp only [vc_seq, vc_cond, vc_block, vc_ops, vcOps_nil, vcOps_cons, vcOps_gate, gateK_true, gate_true, goL_apply, thenQ_normal, condP_true, upd_same, upd_other, updO_some, ev_tmp, ev_const, insVc, pickK, load1K, loadO_cells, loadV_some, iopK, iopV, faddrK, lenLK, ne_eq, not_false_eq_true, Nat.reduceEqDiff, reduceCtorEq, Bool.not_false, List.getElem?_cons_zero, List.getElem?_cons_succ, List.getElem?_toArray, true_and, or_false, if_true, Nat.zero_add, decide_true, h5, hx2, r2, e1, d2]
      refine ⟨hpl, ?_⟩
      obtain ⟨⟨a17, c17, rfl⟩, hat⟩ := IsBx.own ho172
      have hcap : (dueR now B).length ≤ c17 := by
        rcases ho17.2 with ⟨hv0, hl0⟩ | ⟨g, cap, cur, hv0, _, _, hlc, _⟩
        · rw [hl0]; exact Nat.zero_le _
        · have : c17 = cap := by simpa using congrArg (fun x => match x with | .slice _ _ c => c | _ => 0) hv0
          omega
      have hoff : ∀ (y : Ms) (i : Nat), (dueR now B)[i]? = some y → ∃ b o cur t f, a17 = some ⟨b, o, none⟩ ∧ w2.heap[b]? = some (.cells cur t f) ∧ o + (i * 5 + 5) ≤ cur.size ∧ cur.extract (o + i * 5) (o + (i * 5 + 5)) = y.cells.toArray := by
        intro y i hy
        obtain ⟨b, o, c', cur, t, f, he', hb, hsz, hex⟩ := hat i y hy
        rw [Nat.add_assoc] at hsz hex
        exact ⟨b, o, cur, t, f, by simpa using congrArg (fun x => match x with | .slice a _ _ => a | _ => none) he', hb, hsz, hex⟩
      simp only []
      refine vc_loop (fun mm ρ2 ds2 u => ∃ i, i ≤ (dueR now B).length ∧ mm = (dueR now B).length - i ∧ ds2 = [] ∧ ρ2 2 = .int .u64 now ∧ ρ2 7 = .pointer (some ⟨ob, 0, none⟩) ∧ ρ2 8 = .pointer (some ⟨rb, 0, none⟩) ∧ ρ2 9 = ptr sb ∧ ρ2 14 = .string ⟨(tk x).toArray⟩ ∧ ρ2 16 = .pointer (some ⟨b16, 0, none⟩) ∧ ρ2 17 = .pointer (some ⟨w1.heap.size, 0, none⟩) ∧
        ρ2 18 = .int .i64 (((dueR now B).take i).countP fun y => decide (tk y < tk x)) ∧ ρ2 115 = .slice a17 (dueR now B).length c17 ∧ ρ2 116 = .int .i64 (dueR now B).length ∧ ρ2 117 = .int .i64 i ∧ Mod (fun _ => False) w2 u) ((dueR now B).length - 0) ?_ ?_
      · exact ⟨0, Nat.zero_le _, rfl, rfl, by simp only [upd_other, ne_eq, not_false_eq_true, Nat.reduceEqDiff, r2], by simp only [upd_other, ne_eq, not_false_eq_true, Nat.reduceEqDiff, h7], by simp only [upd_other, ne_eq, not_false_eq_true, Nat.reduceEqDiff, h8], by simp only [upd_other, ne_eq, not_false_eq_true, Nat.reduceEqDiff, h9], by simp only [upd_other, ne_eq, not_false_eq_true, Nat.reduceEqDiff, h14], by simp only [upd_other, ne_eq, not_false_eq_true, Nat.reduceEqDiff, h16], by simp only [upd_same, upd_other, ne_eq, not_false_eq_true, Nat.reduceEqDiff], by simp only [upd_same, upd_other, ne_eq, not_false_eq_true, Nat.reduceEqDiff, List.take_zero]; rfl, by simp only [upd_same, upd_other, ne_eq, not_false_eq_true, Nat.reduceEqDiff], by simp only [upd_same, upd_other, ne_eq, not_false_eq_true, Nat.reduceEqDiff], by simp only [upd_same]; rfl, Mod.refl _ _⟩
      · rintro mm ρ2 ds2 u ⟨i, hi', rfl, rfl, k2, k7, k8, k9, k14, k16, k17, k18, k115, k116, k117, hmu⟩
        have hcle : ((dueR now B).take i).countP (fun y => decide (tk y < tk x)) ≤ i := Nat.le_trans List.countP_le_length (by rw [List.length_take]; omega)
        by_cases c1 : i < (dueR now B).length
        · have d1 : (i : Int) < (((dueR now B).length : Nat) : Int) := by omega
          obtain ⟨y, hy⟩ : ∃ y, (dueR now B)[i]? = some y := ⟨(dueR now B)[i], List.getElem?_eq_getElem c1⟩
          have hyf := hr.fine y ((due_mem now hr.sortB y).1 (List.mem_of_getElem? hy)).1
          obtain ⟨b, o, cur, t, f, ha17, hb, hsz, hex⟩ := hoff y i hy
          subst ha17
          have hbu := hmu.keep hb id
          have hi0 : (0 : Int) ≤ (i : Int) ∧ (i : Int) < (((dueR now B).length : Nat) : Int) := by omega
          have hw1 : IntKind.i64.wrap ((i : Int) + 1) = ((i + 1 : Nat) : Int) := by rw [wrap_i64 _ (by omega)]; omega
          have htk : (dueR now B).take (i + 1) = (dueR now B).take i ++ [y] := by rw [List.take_add_one, hy]; rfl
          obtain ⟨u1, hu1⟩ : ∃ u1, u1 = Vc.set (u.alloc (.cells #[.string ⟨#[]⟩, .int .u64 0, .int .u32 0, .int .u64 0, .string ⟨#[]⟩] 49)) u.heap.size (.cells #[.string y.queue, .int .u64 y.id, .int .u32 y.tries, .int .u64 y.expiry, .string y.body] 49) := ⟨_, rfl⟩
          have hmu1 : Mod (fun _ => False) u u1 := by rw [hu1]; exact ((Mod.refl _ _).alloc _).set (.inl (Nat.le_refl _))
          simp only [vc_skip, vc_seq, vc_cond, vc_block, vc_ops, vcOps_nil, vcOps_cons, goL_apply, thenQ_normal, condP_true, upd_same, upd_other, updO_some, updO_none, ev_tmp, insVc, load1K, loadO_cells, loadV_some, loadNK, loadNO_cells, storeNK, storeNO_cells, setMany, iopK, iopV, faddrK, iaddrK, isPlain, Value.cells, ne_eq, not_false_eq_true, Nat.reduceEqDiff, Nat.reduceAdd, Nat.reduceLeDiff, reduceCtorEq, List.map_cons, List.map_nil, List.getElem?_cons_zero, List.getElem?_cons_succ, List.getElem?_toArray, List.size_toArray, List.length_cons, List.length_nil, List.setIfInBounds_toArray, List.set_cons_zero, List.set_cons_succ, true_and, or_false, and_self, if_true, Nat.zero_add, Nat.add_zero, decide_true, Bool.and_true, Int.toNat_natCast, List.all_toArray', List.all_cons, List.all_nil, size_alloc, get_set_same, Nat.lt_add_one, get_alloc, size_alloc, Nat.add_assoc, Nat.reduceAdd, Nat.reduceEqDiff, k115, k116, k117, d1, hi0, hbu, hsz, hex, Ms.cells]
          rw [← hu1]
          have hG1 := hG2.mod (hmu.trans hmu1) id
          refine term_c y.expiry y.queue y.id m u1 _ hG1 hyf.2.2.1 (by have := hyf.1; omega) hyf.2.1 ?_
          intro u2 hm2'
          have hmu2 := (hmu.trans hmu1).trans hm2'
          rw [termK_eq _ _ _ hyf.1]
          have hbl : Op.bytesLess (⟨(tkey y.expiry y.queue y.id).toArray⟩ : ByteArray).toList (⟨(tk x).toArray⟩ : ByteArray).toList = decide (tk y < tk x) := by
            rw [ByteArray.toList_eq, ByteArray.toList_eq, Go.Proofs.bytesLess_eq]; rfl
          simp only [vc_seq, vc_cond, vc_ops, vcOps_nil, vcOps_cons, goL_apply, thenQ_normal, upd_same, upd_other, updO_some, ev_tmp, insVc, loadV_some, sopK, sopV, extK, ne_eq, not_false_eq_true, Nat.reduceEqDiff, List.getElem?_cons_zero, List.getElem?_cons_succ, List.getElem?_toArray, k14, hbl]
          by_cases hlt : tk y < tk x
          · have e2 : decide (tk y < tk x) = true := decide_eq_true hlt
            have hcw : IntKind.i64.wrap (((((dueR now B).take i).countP (fun y => decide (tk y < tk x)) : Nat) : Int) + 1) = ((((dueR now B).take (i + 1)).countP (fun y => decide (tk y < tk x)) : Nat) : Int) := by
              rw [wrap_i64 _ (by omega), htk, List.countP_append]
              simp [hlt]
            simp only [vc_ops, vcOps_nil, vcOps_cons, goL_apply, thenQ_normal, blockQ_normal, condP_true, upd_same, upd_other, updO_some, ev_tmp, ev_const, insVc, loadV_some, iopK, iopV, ne_eq, not_false_eq_true, Nat.reduceEqDiff, reduceCtorEq, true_and, or_false, e2, k18, hcw, k2, k7, k8, k9, k14, k16, k17, k115, k116, k117, hw1]
            exact ⟨(dueR now B).length - (i + 1), by omega, i + 1, by omega, rfl, rfl, rfl, hmu2⟩
          · have e2 : decide (tk y < tk x) = false := decide_eq_false hlt
            have hcc : ((dueR now B).take (i + 1)).countP (fun y => decide (tk y < tk x)) = ((dueR now B).take i).countP (fun y => decide (tk y < tk x)) := by
              rw [htk, List.countP_append]
              simp [hlt]
            simp only [vc_skip, vc_ops, vcOps_nil, vcOps_cons, goL_apply, thenQ_normal, blockQ_normal, condP_false, upd_same, upd_other, updO_some, ev_tmp, ev_const, insVc, loadV_some, iopK, iopV, ne_eq, not_false_eq_true, Nat.reduceEqDiff, reduceCtorEq, true_and, or_false, e2, k18, k2, k7, k8, k9, k14, k16, k17, k115, k116, k117, hw1]
            exact ⟨(dueR now B).length - (i + 1), by omega, i + 1, by omega, rfl, by rw [hcc], rfl, hmu2⟩
        · have d1 : ¬ (i : Int) < (((dueR now B).length : Nat) : Int) := by omega
          have hie : i = (dueR now B).length := by omega
          rw [hie, List.take_length] at k18
          have du := hmu.keep d2 id
          have hcl : (dueR now B).countP (fun y => decide (tk y < tk x)) ≤ (dueR now B).length := List.countP_le_length
          have ha17 : (if c17 = 0 then a17 else Option.map (fun x => x.add 0) a17) = a17 := by
            split
            · rfl
            · rcases ho17.2 with ⟨hv0, hl0⟩ | ⟨g, cap, cur, hv0, _⟩
              · have : a17 = none := by simpa using congrArg (fun x => match x with | .slice a _ _ => a | _ => none) hv0
                rw [this]; rfl
              · have : a17 = some ⟨g, 0, none⟩ := by simpa using congrArg (fun x => match x with | .slice a _ _ => a | _ => none) hv0
                rw [this]; rfl
          simp only [vc_seq, vc_cond, vc_exit, vc_ops, vcOps_nil, vcOps_cons, goL_apply, thenQ_normal, thenQ_exit, blockQ_same, condP_false, upd_same, upd_other, updO_some, updO_none, ev_tmp, insVc, load1K, loadO_cells, loadV_some, storeK, storeO_cells, iopK, iopV, boundOf, slLK, isPlain, ne_eq, not_false_eq_true, Nat.reduceEqDiff, Nat.reduceLT, Nat.reduceLeDiff, reduceCtorEq, Option.map_some, Option.map_none, List.getElem?_cons_zero, List.getElem?_toArray, List.size_toArray, List.length_cons, List.length_nil, List.setIfInBounds_toArray, List.set_cons_zero, true_and, or_false, and_self, Nat.zero_add, decide_true, decide_false, Bool.and_false, Int.toNat_natCast, Nat.sub_zero, Nat.zero_mul, Nat.lt_add_one, k116, k117, d1, k17, k18, du]
          rw [ha17]
          refine ⟨⟨by omega, by omega, by omega⟩, ?_⟩
          have htake := dueT_take hr x now
          have hTl : (dueT B x now).length = (dueR now B).countP (fun y => decide (tk y < tk x)) := by rw [← htake, List.length_take]; omega
          have hm3 : Mod (fun k => k = w1.heap.size) u (Vc.set u w1.heap.size (.cells #[.slice a17 ((dueR now B).countP (fun y => decide (tk y < tk x))) c17] 47)) := (Mod.refl _ _).set (.inr rfl)
          have l1 := lt_of_get hx1
          have l2 := lt_of_get ho1
          have l3 := lt_of_get hrb1
          have l4 := lt_of_get hb1
          have hz01 := (hm0.trans hm1).size
          have hobk : ∀ (j : Nat) (b o : Nat), a17 = some ⟨b, o, none⟩ → b < w1.heap.size := by
            intro j b o e
            subst e
            exact (World.ownsRow.lt ho17 b rfl).2
          refine final false (dueT B x now) (.slice a17 ((dueR now B).countP (fun y => decide (tk y < tk x))) c17) _ _ (by rw [hdB hnr hle]; rfl) (by omega) ⟨⟨a17, c17, by rw [hTl]⟩, ?_⟩ ?_ ?_ ((hG2.mod hmu id).mod hm3 (by omega)) ((hm02.trans hmu).then hm3 (fun k hk e => by omega)) (by simp only [upd_other, ne_eq, not_false_eq_true, Nat.reduceEqDiff, k2]) (by simp only [upd_other, ne_eq, not_false_eq_true, Nat.reduceEqDiff, k7]) (by simp only [upd_other, ne_eq, not_false_eq_true, Nat.reduceEqDiff, k8]) (by simp only [upd_other, ne_eq, not_false_eq_true, Nat.reduceEqDiff, k9]) (by simp only [upd_other, ne_eq, not_false_eq_true, Nat.reduceEqDiff, k16]) (by simp only [upd_other, ne_eq, not_false_eq_true, Nat.reduceEqDiff, k17])
            (hm3.keep (hmu.keep ho2 id) (by omega)) (hm3.keep (hmu.keep hrb2 id) (by omega)) (hm3.keep (hmu.keep hb2 id) (by omega)) (get_set_same _ _ _ (lt_of_get du))
          · intro i y hy
            have hy' : (dueR now B)[i]? = some y := by
              rw [← htake, List.getElem?_take] at hy
              split at hy
              · exact hy
              · cases hy
            obtain ⟨b, o, cur, t, f, e17, hb, hsz, hex⟩ := hoff y i hy'
            exact ⟨b, o, c17, cur, t, f, by rw [hTl, e17], hm3.keep (hmu.keep hb id) (by have := hobk i b o e17; omega), by rw [Nat.add_assoc]; exact hsz, by rw [Nat.add_assoc]; exact hex⟩
          · intro k hk
            have e : a17.map (fun a => a.block) = some k := by
              cases a17 with
              | none => cases hk
              | some a => exact hk
            have h1 := hmu.size
            have h2 := hm3.size
            have h3 := hm2.size
            rcases ho17.2 with ⟨hv0, _⟩ | ⟨g, cap, cur, hv0, _, hg', _⟩
            · have : a17 = none := by simpa using congrArg (fun x => match x with | .slice a _ _ => a | _ => none) hv0
              rw [this] at e; cases e
            · have : a17 = some ⟨g, 0, none⟩ := by simpa using congrArg (fun x => match x with | .slice a _ _ => a | _ => none) hv0
              rw [this] at e
              have hgk : g = k := by simpa using e
              have := lt_of_get hg'
              omega
          · refine (shelf sb mb h0).keep _ _ u _ ((shelf sb mb h0).keep0 hA2 hmu) hm3 (fun k _ hk hf => ?_)
            subst hk
            have := (shelf sb mb h0).footLt _ _ _ hAt hf
            have := hm1.size
            omega
    · have e1 : ¬ (x.expiry : Int) ≤ (now : Int) := by omega
      simp only [vc_cond, vc_ops, vcOps_nil, vcOps_cons, vcOps_gate, gateK_true, gate_true, goL_apply, thenQ_normal, condP_false, upd_same, upd_other, updO_some, updO_none, ev_tmp, ev_const, insVc, pickK, load1K, loadO_cells, loadV_some, storeK, storeO_cells, iopK, iopV, faddrK, isPlain, ne_eq, not_false_eq_true, Nat.reduceEqDiff, Nat.reduceLT, Nat.reduceLeDiff, reduceCtorEq, Bool.not_false, List.getElem?_cons_zero, List.getElem?_cons_succ, List.getElem?_toArray, List.size_toArray, List.length_cons, List.length_nil, List.setIfInBounds_toArray, List.set_cons_zero, true_and, or_false, and_self, if_true, Nat.zero_add, decide_true, decide_false, Bool.and_false, Nat.lt_add_one, h5, hx2, r2, e1, h16, hb2]
      refine ⟨hpl, right _ (.inr (by omega)) ?_ ?_ ?_ ?_ ?_ ?_⟩
      · simp only [upd_other, ne_eq, not_false_eq_true, Nat.reduceEqDiff, r2]
      · simp only [upd_other, ne_eq, not_false_eq_true, Nat.reduceEqDiff, h7]
      · simp only [upd_other, ne_eq, not_false_eq_true, Nat.reduceEqDiff, h8]
      · simp only [upd_other, ne_eq, not_false_eq_true, Nat.reduceEqDiff, h9]
      · simp only [upd_other, ne_eq, not_false_eq_true, Nat.reduceEqDiff, h16]
      · simp only [upd_same, upd_other, ne_eq, not_false_eq_true, Nat.reduceEqDiff]

end Go.Oct

namespace Go.Oct
open Go Go.Vc Go.VrA Go.VrB Go.VrC
set_option maxRecDepth 100000

/-! ### law 22: MessageRows, whole -/

noncomputable def c4p : CC := subC c4 [1, 1, 1, 1, 1]
theorem c4_s : c4 = .seq (subC c4 [0]) (.seq (subC c4 [1, 0]) (.seq (subC c4 [1, 1, 0]) (.seq (subC c4 [1, 1, 1, 0]) (.seq (subC c4 [1, 1, 1, 1, 0]) c4p)))) := rfl
theorem c4p_s : c4p = .seq (subC c4 [1, 1, 1, 1, 1, 0]) (.seq (subC c4 [1, 1, 1, 1, 1, 1, 0]) (.seq (subC c4 [1, 1, 1, 1, 1, 1, 1, 0]) (.seq (subC c4 [1, 1, 1, 1, 1, 1, 1, 1, 0]) (.seq (subC c4 [1, 1, 1, 1, 1, 1, 1, 1, 1, 0]) c4t)))) := rfl

theorem mrows_tail (B : List Ms) (map : M) (c : Nat) (x : Ms) (now most : Nat) (m : Int) (sb mb : Nat) (h0 : 0 ≠ mb) (v' : Value) (ρ : Env) (w u : World) (K : Value → World → Prop) (hmost : most < 256) (hn : now < 2 ^ 64) (hBl : B.length ≤ 20)
    (hr : Rel B map) (hml : map.length ≤ 40) (hc : c ≤ 100) (hq : x.queue.size ≤ 100) (hx : x.any) (he0 : x.expiry ≠ 0) (hg : Gl m w) (hmwu : Mod (fun _ => False) w u) (hbx : IsBx u v' B) (hsu : IsShelf u sb mb c map) (hmbw : w.heap.size + 3 ≤ mb)
    (x3 : u.heap[w.heap.size]? = some (.cells #[.string x.queue, .int .u64 x.id, .int .u32 x.tries, .int .u64 x.expiry, .string x.body] 49 (0, 0))) (o3 : u.heap[w.heap.size + 1]? = some (.cells #[.int .u8 most] 5 (0, 0))) (rr3 : u.heap[w.heap.size + 2]? = some (.cells #[.bool false] 4 (0, 0))) (h0w : 0 < w.heap.size)
    (h2 : ρ 2 = .int .u64 now) (h5 : ρ 5 = .pointer (some ⟨w.heap.size, 0, none⟩)) (h7 : ρ 7 = .pointer (some ⟨w.heap.size + 1, 0, none⟩)) (h8 : ρ 8 = .pointer (some ⟨w.heap.size + 2, 0, none⟩)) (h9 : ρ 9 = ptr sb) (h10 : ρ 10 = v')
    (h : ∀ w', Mod (fun _ => False) w w' → K (.bool true) w') :
    vc Proofs.Tryz.prog none 202 c4p (endQ Proofs.Tryz.prog r4 K) ρ [] u := by
  rw [c4p_s]
  simp only [subC, c4, vc_seq, vc_ops, vcOps_cons, goL_apply, upd_same, upd_other, updO_some, ev_tmp, insVc, load1K, loadO_cells, loadV_some, faddrK, ne_eq, not_false_eq_true, Nat.reduceEqDiff, List.map_cons, List.map_nil, List.getElem?_cons_zero, List.getElem?_cons_succ, List.getElem?_toArray, Nat.zero_add, Nat.add_zero, h10, h5, x3]
  refine rfind_c B x.queue x.id v' u _ hbx (by omega) ?_
  intro u1 hm1'
  have hmu1 : Mod (fun _ => False) w u1 := hmwu.trans hm1'
  have x4 := hm1'.keep x3 id
  have o4 := hm1'.keep o3 id
  have rr4 := hm1'.keep rr3 id
  have hbx4 := hbx.keep hm1'
  have hgu1 : Gl m u1 := hg.mod hmu1 id
  simp only [vc_seq, vc_ops, vcOps_nil, vcOps_cons, goL_apply, thenQ_normal, upd_same, upd_other, updO_some, ev_tmp, insVc, load1K, loadO_cells, loadV_some, faddrK, ne_eq, not_false_eq_true, Nat.reduceEqDiff, List.map_cons, List.map_nil, List.getElem?_cons_zero, List.getElem?_cons_succ, List.getElem?_toArray, Nat.zero_add, Nat.add_zero, h5, x4]
  refine term_c x.expiry x.queue x.id m u1 _ hgu1 hx.2.1 (by omega) hx.1 ?_
  intro u2 hm2'
  rw [termK_eq _ _ _ (by omega)]
  have hmu2 := hmu1.trans hm2'
  have hs5 := (shelf sb mb h0).keep0 (show (shelf sb mb h0).At (c, map) u from hsu) (hm1'.trans hm2')
  have hkl := tkey_len x.expiry x.queue x.id (by omega)
  simp only [vc_skip, vc_seq, vc_cond, vc_ops, vcOps_nil, vcOps_cons, goL_apply, thenQ_normal, condP_false, upd_same, upd_other, updO_some, ev_tmp, ev_const, insVc, loadV_some, iopK, iopV, extK, ne_eq, not_false_eq_true, Nat.reduceEqDiff, reduceCtorEq, List.map_cons, List.map_nil, List.getElem?_cons_zero, List.getElem?_cons_succ, List.getElem?_toArray, true_and, or_false, Int.reduceBNe, h9]
  refine sput_c sb mb c map ⟨(tkey x.expiry x.queue x.id).toArray⟩ ⟨#[]⟩ u2 _ hs5 (by simp only [maxLen]; omega) (fun e => ?_) ?_
  · exfalso
    have e1 : (⟨(tkey x.expiry x.queue x.id).toArray⟩ : ByteArray).size = (tkey x.expiry x.queue x.id).length := by simp only [ByteArray.size, List.size_toArray]
    have e2 : (⟨#[]⟩ : ByteArray).size = 0 := rfl
    omega
  intro _ u3 hm3' hs3
  have hs3' : (shelf sb mb h0).At (c + 1, putM (tk x) [] map) u3 := hs3
  have hz1 := hm1'.size
  have hz2' := hm2'.size
  have x5 := hm3'.keep (hm2'.keep x4 id) (by omega)
  have o5 := hm3'.keep (hm2'.keep o4 id) (by omega)
  have rr5 := hm3'.keep (hm2'.keep rr4 id) (by omega)
  have hbx5 := (hbx4.keep hm2').modMap hs5.2.1 hm3'
  have hmu3 : Mod (fun _ => False) w u3 := hmu2.then hm3' (fun k hk e => by omega)
  have hg3 : Gl m u3 := hg.mod hmu3 id
  have fin : ∀ (r0 : Bool) (ρ' : Env) (u4 : World), (r0 = true ↔ Right B x) → Mod (fun _ => False) u3 u4 → u4.heap[u3.heap.size]? = some (.cells #[.bool r0] 4 (0, 0)) →
      ρ' 2 = .int .u64 now → ρ' 5 = .pointer (some ⟨w.heap.size, 0, none⟩) → ρ' 7 = .pointer (some ⟨w.heap.size + 1, 0, none⟩) → ρ' 8 = .pointer (some ⟨w.heap.size + 2, 0, none⟩) → ρ' 9 = ptr sb → ρ' 10 = v' → ρ' 14 = .string ⟨(tkey x.expiry x.queue x.id).toArray⟩ → ρ' 16 = .pointer (some ⟨u3.heap.size, 0, none⟩) →
      vc Proofs.Tryz.prog none 202 c4t (endQ Proofs.Tryz.prog r4 K) ρ' [] u4 := by
    intro r0 ρ' u4 hr0 hm4 hb4 k2 k5 k7 k8 k9 k10 k14 k16
    have hz3' := hmu3.size
    exact mrows_mid B map c x now most m r0 w.heap.size (w.heap.size + 1) (w.heap.size + 2) u3.heap.size sb mb h0 v' ρ' w u4 K hmost hn (by omega) hr (by omega) (by omega) hx.1 hx.2.1 he0 hr0 ((shelf sb mb h0).keep0 hs3' hm4) (hg3.mod hm4 id) (hmu3.trans hm4) (hbx5.keep hm4)
      k2 k5 k7 k8 k9 k10 k14 k16 (hm4.keep x5 id) (hm4.keep o5 id) (hm4.keep rr5 id) hb4 (by omega) hz3' (by have := lt_of_get rr5; omega) h0w h
  simp only [vc_seq, vcOps_nil, goL_apply, thenQ_normal, updO_some]
  by_cases hf : findL x.queue x.id B 0 ≥ 0
  · obtain ⟨k, y, hk, hy, e1, e2⟩ := findL_get _ _ _ _ hf
    obtain ⟨⟨a', cp', rfl⟩, hat'⟩ := id hbx5
    obtain ⟨b, o, c', cur, t, f, he, hb, hsz, hex⟩ := hat' k y hy
    have ha' : a' = some ⟨b, o, none⟩ := by simpa using congrArg (fun x => match x with | .slice a _ _ => a | _ => none) he
    subst ha'
    have hkB : k < B.length := (List.getElem?_eq_some_iff.1 hy).1
    have hfk : findL x.queue x.id B 0 = (k : Int) := by rw [hk, Nat.zero_add]
    have hk0 : (0 : Int) ≤ (k : Int) ∧ (k : Int) < ((B.length : Nat) : Int) := by omega
    have hge : (k : Int) ≥ 0 := by omega
    have c3y : cur[o + k * 5 + 3]? = some (.int .u64 y.expiry) := by
      have := congrArg (fun z => z[3]?) hex
      simp only [Array.getElem?_extract, Ms.cells] at this
      rw [if_pos (by omega)] at this
      exact this
    have hrr : (((y.expiry : Int) == (x.expiry : Int)) = true) ↔ Right B x := by
      constructor
      · intro h3
        refine ⟨y, List.mem_of_getElem? hy, e1, e2, ?_⟩
        have := eq_of_beq h3
        omega
      · rintro ⟨z, hz, f1, f2, f3⟩
        have : y = z := uniq_of_sorted hr.sortB (List.mem_of_getElem? hy) hz (e1.trans f1.symm) (e2.trans f2.symm)
        rw [this, f3]; simp
    refine draw_d (fun W => W.heap[w.heap.size]? = some (.cells #[.string x.queue, .int .u64 x.id, .int .u32 x.tries, .int .u64 x.expiry, .string x.body] 49 (0, 0)) ∧ W.heap[b]? = some (.cells cur t f)) (by kernel_rfl) (by kernel_rfl) (by kernel_rfl) (by kernel_rfl) ⟨x5, hb⟩ ?_
    simp only [gate_true, thenQ_normal, upd_same, upd_other, updO_some, updO_none, ev_tmp, ev_const, insVc, pickK, loadV_some, storeK, storeO_cells, iopK, iopV, faddrK, iaddrK, isPlain, Value.cells, ne_eq, not_false_eq_true, Nat.reduceEqDiff, Nat.reduceLT, Nat.reduceLeDiff, reduceCtorEq, List.size_toArray, List.length_cons, List.length_nil, List.setIfInBounds_toArray, List.set_cons_zero, true_and, or_false, and_self, if_true, if_false, Bool.false_eq_true, Nat.zero_add, decide_true, decide_false, Bool.and_false, Int.toNat_natCast, pureI, size_drew, get_alloc_new, Nat.lt_add_one, vcD_nil, vcD_cons, vcD_gate, gateD_true, stepD_pure, stepD_load, stepD_step, kindI, loadI, hfk, hge, h10, hk0]
    refine loadD1 (b := b) (o := o + k * 5 + 3) (v := .int .u64 y.expiry) rfl (fun W hW => ⟨_, _, _, hW.2, c3y⟩) ?_
    simp only [Nat.zero_add, h5]
    refine loadD1 (b := w.heap.size) (o := 3) (v := .int .u64 x.expiry) rfl (fun W hW => ⟨_, _, _, hW.1, rfl⟩) ?_
    simp only [true_and]
    have hma : ∀ b : Bool, Mod (fun _ => False) u3 (u3.drew.alloc (.cells #[.bool b] 4)) := fun b => (Mod.refl _ _).drew.alloc _
    have hm4 : ∀ b b' : Bool, Mod (fun _ => False) u3 (Vc.set (u3.drew.alloc (.cells #[.bool b] 4)) u3.heap.size (.cells #[.bool b'] 4)) := fun b b' => (hma b).set (.inl (Nat.le_refl _))
    refine ⟨⟨(hma _).keep x5 id, (hma _).keep hb id⟩, ⟨(hm4 _ _).keep x5 id, (hm4 _ _).keep hb id⟩, fin _ _ _ hrr (hm4 _ _) (get_set_same _ _ _ (by rw [size_alloc, size_drew]; omega)) (by simp only [upd_other, ne_eq, not_false_eq_true, Nat.reduceEqDiff, h2]) (by simp only [upd_other, ne_eq, not_false_eq_true, Nat.reduceEqDiff, h5]) (by simp only [upd_other, ne_eq, not_false_eq_true, Nat.reduceEqDiff, h7]) (by simp only [upd_other, ne_eq, not_false_eq_true, Nat.reduceEqDiff, h8]) (by simp only [upd_other, ne_eq, not_false_eq_true, Nat.reduceEqDiff, h9]) (by simp only [upd_other, ne_eq, not_false_eq_true, Nat.reduceEqDiff, h10]) (by simp only [upd_same, upd_other, ne_eq, not_false_eq_true, Nat.reduceEqDiff]) (by simp only [upd_same])⟩
  · have hge : ¬ findL x.queue x.id B 0 ≥ 0 := hf
    refine draw_d (fun W => True) (by kernel_rfl) (by kernel_rfl) (by kernel_rfl) (by kernel_rfl) trivial ?_
    simp only [gate_true, thenQ_normal, upd_same, upd_other, updO_some, updO_none, ev_tmp, ev_const, insVc, pickK, loadV_some, storeK, storeO_cells, iopK, iopV, isPlain, Value.cells, ne_eq, not_false_eq_true, Nat.reduceEqDiff, Nat.reduceLT, Nat.reduceLeDiff, reduceCtorEq, List.size_toArray, List.length_cons, List.length_nil, List.setIfInBounds_toArray, List.set_cons_zero, true_and, or_false, if_true, if_false, Bool.false_eq_true, Nat.zero_add, decide_true, decide_false, Bool.and_false, pureI, size_drew, get_alloc_new, Nat.lt_add_one, vcD_nil, vcD_cons, vcD_gate, gateD_false, stepD_pure, stepD_step, kindI, loadI, hge]
    have hnr : (false = true ↔ Right B x) := ⟨(fun e => Bool.noConfusion e), fun ⟨z, hz, f1, f2, _⟩ => absurd ((findL_iff _ _ _ _).2 ⟨z, hz, f1, f2⟩) hf⟩
    have hma : ∀ b : Bool, Mod (fun _ => False) u3 (u3.drew.alloc (.cells #[.bool b] 4)) := fun b => (Mod.refl _ _).drew.alloc _
    have hm4 : ∀ b b' : Bool, Mod (fun _ => False) u3 (Vc.set (u3.drew.alloc (.cells #[.bool b] 4)) u3.heap.size (.cells #[.bool b'] 4)) := fun b b' => (hma b).set (.inl (Nat.le_refl _))
    refine (fin _ _ _ hnr (hm4 _ _) (get_set_same _ _ _ (by rw [size_alloc, size_drew]; omega)) (by simp only [upd_other, ne_eq, not_false_eq_true, Nat.reduceEqDiff, h2]) (by simp only [upd_other, ne_eq, not_false_eq_true, Nat.reduceEqDiff, h5]) (by simp only [upd_other, ne_eq, not_false_eq_true, Nat.reduceEqDiff, h7]) (by simp only [upd_other, ne_eq, not_false_eq_true, Nat.reduceEqDiff, h8]) (by simp only [upd_other, ne_eq, not_false_eq_true, Nat.reduceEqDiff, h9]) (by simp only [upd_other, ne_eq, not_false_eq_true, Nat.reduceEqDiff, h10]) (by simp only [upd_same, upd_other, ne_eq, not_false_eq_true, Nat.reduceEqDiff]) (by simp only [upd_same]))


theorem mrows_c (L : List Ms) (vl : Value) (x : Ms) (now most : Nat) (m : Int) (w : World) (K : Value → World → Prop) (hg : Gl m w) (hv : IsBx w vl L) (hL : ∀ y ∈ L, y.any) (hx : x.any) (hn : now < 2 ^ 64) (hmost : most < 256)
    (h : ∀ w', Mod (fun _ => False) w w' → K (.bool true) w') :
    Ok Proofs.Tryz.prog 4 #[vl, x.val, .int .u64 now, .int .u8 most] w K := by
  obtain ⟨⟨a, cp, rfl⟩, hat⟩ := id hv
  refine F4.enter (args := [.slice a L.length cp, x.val, .int .u64 now, .int .u8 most]) (by simp) ?_
  rw [c4_s]
  simp only [subC, c4, vc_seq, vc_ops, vcOps_nil, vcOps_cons, goL_apply, thenQ_normal, upd_other, updO_some, ev_tmp, initE_at, insVc, Value.cells, ne_eq, not_false_eq_true, Nat.reduceEqDiff, Nat.reduceAdd, Option.getD_some, List.map_nil, List.getElem?_cons_zero, List.getElem?_cons_succ, size_alloc, size_alloc, Nat.add_assoc, Nat.reduceAdd, Nat.reduceEqDiff, Ms.val, Ms.cells]
  refine callK_gen ?_
  intro w1 hw1
  have hm1 : Mod (fun _ => False) w w1 := by rw [hw1]; exact (((Mod.refl _ _).alloc _).alloc _).alloc _
  have x1 : w1.heap[w.heap.size]? = some (.cells #[.string x.queue, .int .u64 x.id, .int .u32 x.tries, .int .u64 x.expiry, .string x.body] 49 (0, 0)) := by rw [hw1]; simp only [Nat.reduceAdd, reduceCtorEq, if_true, if_false, size_alloc, get_alloc, size_alloc, Nat.add_assoc, Nat.reduceAdd, Nat.left_eq_add, Nat.one_ne_zero]
  have o1 : w1.heap[w.heap.size + 1]? = some (.cells #[.int .u8 most] 5 (0, 0)) := by rw [hw1]; simp only [Nat.reduceEqDiff, Nat.reduceAdd, if_true, if_false, size_alloc, get_alloc, size_alloc, Nat.add_assoc, Nat.reduceAdd, Nat.add_left_cancel_iff, Nat.add_eq_left, Nat.reduceEqDiff, Nat.one_ne_zero]
  have r1 : w1.heap[w.heap.size + 2]? = some (.cells #[.bool false] 4 (0, 0)) := by rw [hw1]; simp only [Nat.reduceEqDiff, Nat.reduceAdd, reduceCtorEq, if_true, if_false, size_alloc, get_alloc, size_alloc, Nat.add_assoc, Nat.reduceAdd, Nat.add_left_cancel_iff, Nat.add_eq_left, Nat.reduceEqDiff]
  clear hw1
  refine awake22_c m w1 _ (hg.mod hm1 id) ?_
  intro w2 hm2
  have x2 := hm2.keep x1 id
  have o2 := hm2.keep o1 id
  have r2 := hm2.keep r1 id
  have hm02 := hm1.trans hm2
  have ret : ∀ u : World, Mod (fun _ => False) w u → u.heap[w.heap.size + 2]? = some (.cells #[.bool false] 4 (0, 0)) → Mod (fun _ => False) w (Vc.set u (w.heap.size + 2) (.cells #[.bool true] 4)) := fun u hu _ => hu.set (.inl (by omega))
  by_cases c1 : L.length > 20
  · have d1 : ((L.length : Nat) : Int) > 20 := by omega
    simp only [vc_skip, vc_seq, vc_cond, vc_ret, vc_ops, vcOps_nil, vcOps_cons, vcOps_gate, gateK_false, gate_false, goL_apply, thenQ_normal, thenQ_ret, condP_true, condP_false, upd_same, upd_other, updO_some, updO_none, ev_tmp, ev_const, endQ_ret, endK, resK, res1, packed, initE_at, insVc, pickK, loadV_some, storeK, storeO_cells, iopK, iopV, notK, lenLK, isPlain, ne_eq, not_false_eq_true, Nat.reduceEqDiff, Nat.reduceLT, Nat.reduceLeDiff, reduceCtorEq, Bool.not_true, Option.getD_some, List.getElem?_cons_zero, List.size_toArray, List.length_cons, List.length_nil, List.setIfInBounds_toArray, List.set_cons_zero, List.nil_append, true_and, or_false, and_self, if_true, Nat.zero_add, decide_true, decide_false, Bool.and_false, Nat.lt_add_one, d1, r2, get_set_same _ _ _ (lt_of_get r2)]
    exact h _ (ret w2 hm02 r2)
  have d1 : ¬ ((L.length : Nat) : Int) > 20 := by omega
  by_cases c2 : x.queue.size > 100
  · have d2 : ((x.queue.size : Nat) : Int) > 100 := by omega
    simp only [vc_skip, vc_seq, vc_cond, vc_ret, vc_ops, vcOps_nil, vcOps_cons, vcOps_gate, gateK_true, gateK_false, gate_false, goL_apply, thenQ_normal, thenQ_ret, condP_true, condP_false, upd_same, upd_other, updO_some, updO_none, ev_tmp, ev_const, endQ_ret, endK, resK, res1, packed, initE_at, insVc, pickK, load1K, loadO_cells, loadV_some, storeK, storeO_cells, iopK, iopV, notK, faddrK, lenSK, lenLK, isPlain, ne_eq, not_false_eq_true, Nat.reduceEqDiff, Nat.reduceLT, Nat.reduceLeDiff, reduceCtorEq, Bool.not_true, Bool.not_false, Option.getD_some, List.getElem?_cons_zero, List.getElem?_toArray, List.size_toArray, List.length_cons, List.length_nil, List.setIfInBounds_toArray, List.set_cons_zero, List.nil_append, true_and, or_false, and_self, if_true, if_false, Bool.false_eq_true, Nat.zero_add, Nat.add_zero, decide_true, decide_false, Bool.and_false, Nat.lt_add_one, x2, d1, d2, r2, get_set_same _ _ _ (lt_of_get r2)]
    exact h _ (ret w2 hm02 r2)
  have d2 : ¬ ((x.queue.size : Nat) : Int) > 100 := by omega
  by_cases c3 : x.expiry = 0
  · have d3 : ((x.expiry : Int) == 0) = true := by simp [c3]
    simp only [vc_skip, vc_seq, vc_cond, vc_ret, vc_ops, vcOps_nil, vcOps_cons, vcOps_gate, gateK_true, gate_false, goL_apply, thenQ_normal, thenQ_ret, condP_true, condP_false, upd_same, upd_other, updO_some, updO_none, ev_tmp, ev_const, endQ_ret, endK, resK, res1, packed, initE_at, insVc, pickK, load1K, loadO_cells, loadV_some, storeK, storeO_cells, iopK, iopV, notK, faddrK, lenSK, lenLK, isPlain, ne_eq, not_false_eq_true, Nat.reduceEqDiff, Nat.reduceLT, Nat.reduceLeDiff, reduceCtorEq, Bool.not_true, Bool.not_false, Option.getD_some, List.getElem?_cons_zero, List.getElem?_cons_succ, List.getElem?_toArray, List.size_toArray, List.length_cons, List.length_nil, List.setIfInBounds_toArray, List.set_cons_zero, List.nil_append, true_and, or_false, and_self, if_false, Bool.false_eq_true, Nat.zero_add, Nat.add_zero, decide_true, decide_false, Bool.and_false, Nat.lt_add_one, x2, d1, d2, d3, r2, get_set_same _ _ _ (lt_of_get r2)]
    exact h _ (ret w2 hm02 r2)
  have d3 : ((x.expiry : Int) == 0) = false := by rw [beq_eq_false_iff_ne]; omega
  simp only [vc_skip, vc_seq, vc_cond, vc_ops, vcOps_nil, vcOps_cons, vcOps_gate, gateK_true, gate_false, goL_apply, thenQ_normal, condP_false, upd_same, upd_other, updO_some, ev_tmp, ev_const, initE_at, insVc, pickK, load1K, loadO_cells, loadV_some, iopK, iopV, notK, faddrK, lenSK, lenLK, ne_eq, not_false_eq_true, Nat.reduceEqDiff, reduceCtorEq, Bool.not_true, Bool.not_false, Option.getD_some, List.map_cons, List.map_nil, List.getElem?_cons_zero, List.getElem?_cons_succ, List.getElem?_toArray, true_and, or_false, if_false, Bool.false_eq_true, Nat.zero_add, Nat.add_zero, decide_false, x2, d1, d2, d3]
  refine new_c [] _ w2 _ (.inl ⟨rfl, _, rfl⟩) (by simp) (fun _ h => by cases h) ?_
  intro w3 sb mb hm3 hsb hmb hs3
  have h0w : 0 < w.heap.size := World.block_lt_of_cell? w _ hg
  have hz02 := hm02.size
  have hz2 := lt_of_get r2
  have h0 : 0 ≠ mb := by omega
  have hm03 := hm02.trans hm3
  simp only [vc_seq, vc_block, vc_ops, vcOps_nil, vcOps_cons, goL_apply, thenQ_normal, upd_same, upd_other, updO_some, ev_tmp, ev_const, initE_at, insVc, lenLK, ne_eq, not_false_eq_true, reduceCtorEq, Option.getD_some, List.getElem?_cons_zero]
  refine vc_loop (fun mm ρ ds u => ∃ i B v' c map, i ≤ L.length ∧ mm = L.length - i ∧ ds = [] ∧ ρ 2 = .int .u64 now ∧ ρ 5 = .pointer (some ⟨w.heap.size, 0, none⟩) ∧ ρ 7 = .pointer (some ⟨w.heap.size + 1, 0, none⟩) ∧ ρ 8 = .pointer (some ⟨w.heap.size + 2, 0, none⟩) ∧ ρ 9 = ptr sb ∧ ρ 10 = v' ∧
    ρ 44 = .slice a L.length cp ∧ ρ 45 = .int .i64 L.length ∧ ρ 46 = .int .i64 i ∧
    Mod (fun k => k = mb) w3 u ∧ IsBx u v' B ∧ IsShelf u sb mb c map ∧ Rel B map ∧ c ≤ 2 * i ∧ map.length ≤ 2 * i ∧ B.length ≤ i ∧ (∀ y ∈ B, y.any)) (L.length - 0) ?_ ?_
  · exact ⟨0, [], _, 0, [], Nat.zero_le _, rfl, rfl, by simp only [upd_other, initE_at, ne_eq, not_false_eq_true, Nat.reduceEqDiff, Option.getD_some, List.getElem?_cons_zero, List.getElem?_cons_succ], by simp only [upd_same, upd_other, ne_eq, not_false_eq_true, Nat.reduceEqDiff], by simp only [upd_same, upd_other, ne_eq, not_false_eq_true, Nat.reduceEqDiff], by simp only [upd_same, upd_other, ne_eq, not_false_eq_true, Nat.reduceEqDiff], by simp only [upd_same, upd_other, ne_eq, not_false_eq_true, Nat.reduceEqDiff], by simp only [upd_same, upd_other, ne_eq, not_false_eq_true, Nat.reduceEqDiff], by simp only [upd_same, upd_other, ne_eq, not_false_eq_true, Nat.reduceEqDiff], by simp only [upd_same, upd_other, ne_eq, not_false_eq_true, Nat.reduceEqDiff], by simp only [upd_same]; rfl, Mod.refl _ _, IsBx.nil _, hs3, Rel.nil, by simp, by simp, by simp, by simp⟩
  · rintro mm ρ ds u ⟨i, B, v', c, map, hi, rfl, rfl, h2, h5, h7, h8, h9, h10, h44, h45, h46, hmu, hbx, hsu, hr, hc, hml, hBl, hBa⟩
    have x3 := hmu.keep (hm3.keep x2 id) (by omega)
    have o3 := hmu.keep (hm3.keep o2 id) (by omega)
    have r3 := hmu.keep (hm3.keep r2 id) (by omega)
    have hz3 := hm3.size
    have hmwu : Mod (fun _ => False) w u := hm03.then hmu (fun k hk e => by omega)
    by_cases c4 : i < L.length
    · have d4 : (i : Int) < ((L.length : Nat) : Int) := by omega
      obtain ⟨y, hyi⟩ : ∃ y, L[i]? = some y := ⟨L[i], List.getElem?_eq_getElem c4⟩
      obtain ⟨b, o, c', cur, t, f, he, hb, hsz, hex⟩ := hat i y hyi
      have hbu := hmwu.keep hb id
      rw [Nat.add_assoc] at hsz hex
      have ha : a = some ⟨b, o, none⟩ := by simpa using congrArg (fun x => match x with | .slice a _ _ => a | _ => none) he
      subst ha
      have hi0 : (0 : Int) ≤ (i : Int) ∧ (i : Int) < ((L.length : Nat) : Int) := by omega
      have hw1 : IntKind.i64.wrap ((i : Int) + 1) = ((i + 1 : Nat) : Int) := by rw [wrap_i64 _ (by omega)]; omega
      obtain ⟨hy1, hy2, hy3⟩ := hL y (List.mem_of_getElem? hyi)
      obtain ⟨u1, hu1⟩ : ∃ u1, u1 = Vc.set (u.alloc (.cells #[.string ⟨#[]⟩, .int .u64 0, .int .u32 0, .int .u64 0, .string ⟨#[]⟩] 49)) u.heap.size (.cells #[.string y.queue, .int .u64 y.id, .int .u32 y.tries, .int .u64 y.expiry, .string y.body] 49) := ⟨_, rfl⟩
      have hmu1 : Mod (fun _ => False) u u1 := by rw [hu1]; exact ((Mod.refl _ _).alloc _).set (.inl (Nat.le_refl _))
      have y1 : u1.heap[u.heap.size]? = some (.cells #[.string y.queue, .int .u64 y.id, .int .u32 y.tries, .int .u64 y.expiry, .string y.body] 49 (0, 0)) := by rw [hu1]; exact get_set_same _ _ _ (by simp only [size_alloc]; omega)
      by_cases c5 : y.queue.size > 100
      · have d5 : ((y.queue.size : Nat) : Int) > 100 := by omega
        have r4 := hmu1.keep r3 id
        have hne : ¬ w.heap.size + 2 = u.heap.size := by have := lt_of_get r3; omega
        have hlt2 : w.heap.size + 2 < u.heap.size + 1 := by have := lt_of_get r3; omega
        simp only [vc_skip, vc_seq, vc_cond, vc_block, vc_ret, vc_ops, vcOps_nil, vcOps_cons, vcOps_gate, gateK_false, gate_false, goL_apply, thenQ_normal, thenQ_ret, blockQ_ret, condP_true, upd_same, upd_other, updO_some, updO_none, ev_tmp, ev_const, endQ_ret, endK, resK, res1, packed, insVc, pickK, load1K, loadO_cells, loadV_some, loadNK, loadNO_cells, storeK, storeO_cells, storeNK, storeNO_cells, setMany, iopK, iopV, faddrK, iaddrK, lenSK, isPlain, Value.cells, ne_eq, not_false_eq_true, Nat.reduceEqDiff, Nat.reduceAdd, Nat.reduceLT, Nat.reduceLeDiff, reduceCtorEq, Bool.not_true, List.getElem?_cons_zero, List.getElem?_toArray, List.size_toArray, List.length_cons, List.length_nil, List.setIfInBounds_toArray, List.set_cons_zero, List.set_cons_succ, List.nil_append, true_and, and_true, or_false, and_self, if_true, if_false, Nat.zero_add, Nat.add_zero, decide_true, decide_false, Bool.and_true, Bool.and_false, Int.toNat_natCast, List.all_toArray', List.all_cons, List.all_nil, size_set, size_alloc, get_set_same, Nat.lt_add_one, get_alloc, get_set, size_alloc, size_set, Nat.add_assoc, Nat.reduceAdd, Nat.reduceEqDiff, Nat.reduceLT, h44, h45, h46, d4, hi0, hbu, hsz, hex, Ms.cells, d5, h8, r3, hne, hlt2]
        rw [← hu1]
        exact h _ (ret u1 (hmwu.trans hmu1) r4)
      have d5 : ¬ ((y.queue.size : Nat) : Int) > 100 := by omega
      by_cases c6 : y.body.size > 1000
      · have d6 : ((y.body.size : Nat) : Int) > 1000 := by omega
        have r4 := hmu1.keep r3 id
        have hne : ¬ w.heap.size + 2 = u.heap.size := by have := lt_of_get r3; omega
        have hlt2 : w.heap.size + 2 < u.heap.size + 1 := by have := lt_of_get r3; omega
        simp only [vc_skip, vc_seq, vc_cond, vc_block, vc_ret, vc_ops, vcOps_nil, vcOps_cons, vcOps_gate, gateK_true, gate_false, goL_apply, thenQ_normal, thenQ_ret, blockQ_ret, condP_true, upd_same, upd_other, updO_some, updO_none, ev_tmp, ev_const, endQ_ret, endK, resK, res1, packed, insVc, pickK, load1K, loadO_cells, loadV_some, loadNK, loadNO_cells, storeK, storeO_cells, storeNK, storeNO_cells, setMany, iopK, iopV, faddrK, iaddrK, lenSK, isPlain, Value.cells, ne_eq, not_false_eq_true, Nat.reduceEqDiff, Nat.reduceAdd, Nat.reduceLT, Nat.reduceLeDiff, reduceCtorEq, Bool.not_false, List.getElem?_cons_zero, List.getElem?_cons_succ, List.getElem?_toArray, List.size_toArray, List.length_cons, List.length_nil, List.setIfInBounds_toArray, List.set_cons_zero, List.set_cons_succ, List.nil_append, true_and, and_true, or_false, and_self, if_true, if_false, Bool.false_eq_true, Nat.zero_add, Nat.add_zero, decide_true, decide_false, Bool.and_true, Bool.and_false, Int.toNat_natCast, List.all_toArray', List.all_cons, List.all_nil, size_set, size_alloc, get_set_same, Nat.lt_add_one, get_alloc, get_set, size_alloc, size_set, Nat.add_assoc, Nat.reduceAdd, Nat.reduceEqDiff, Nat.reduceLT, h44, h45, h46, d4, hi0, hbu, hsz, hex, Ms.cells, d5, d6, h8, r3, hne, hlt2]
        rw [← hu1]
        exact h _ (ret u1 (hmwu.trans hmu1) r4)
      have d6 : ¬ ((y.body.size : Nat) : Int) > 1000 := by omega
      have hyf : y.fine := ⟨by omega, hy1, hy2, hy3, by omega⟩
      simp only [vc_skip, vc_seq, vc_cond, vc_block, vc_ops, vcOps_nil, vcOps_cons, vcOps_gate, gateK_true, gate_false, goL_apply, thenQ_normal, condP_true, condP_false, upd_same, upd_other, updO_some, updO_none, ev_tmp, ev_const, insVc, pickK, load1K, loadO_cells, loadV_some, loadNK, loadNO_cells, storeNK, storeNO_cells, setMany, iopK, iopV, faddrK, iaddrK, lenSK, isPlain, Value.cells, ne_eq, not_false_eq_true, Nat.reduceEqDiff, Nat.reduceAdd, Nat.reduceLeDiff, reduceCtorEq, Bool.not_false, List.map_cons, List.map_nil, List.getElem?_cons_zero, List.getElem?_cons_succ, List.getElem?_toArray, List.size_toArray, List.length_cons, List.length_nil, List.setIfInBounds_toArray, List.set_cons_zero, List.set_cons_succ, true_and, or_false, and_self, if_true, if_false, Bool.false_eq_true, Nat.zero_add, Nat.add_zero, decide_true, decide_false, Bool.and_true, Int.toNat_natCast, List.extract_toArray, List.extract_eq_take_drop, List.drop_zero, List.take_zero, List.take_succ_cons, Nat.sub_zero, List.all_toArray', List.all_cons, List.all_nil, size_alloc, get_set_same, Nat.lt_add_one, get_alloc, size_alloc, Nat.add_assoc, Nat.reduceAdd, Nat.reduceEqDiff, h44, h45, h46, d4, hi0, hbu, hsz, hex, Ms.cells, d5, d6, h10]
      rw [← hu1]
      refine radd_c B y v' u1 _ (hbx.keep hmu1) (by omega) (by omega) hy1 hy2 ?_
      intro u2 v2 hm2' hbx2
      have y2 := hm2'.keep y1 id
      have hmu2 := hmu1.trans hm2'
      have hs2 := (shelf sb mb h0).keep0 (show (shelf sb mb h0).At (c, map) u from hsu) hmu2
      obtain ⟨hmd1, hmd2⟩ := madd_shelf sb mb h0 c map B y hr hyf
      have hgu2 : Gl m u2 := hg.mod (hmwu.trans hmu2) id
      simp only [vc_ops, vcOps_nil, vcOps_cons, goL_apply, thenQ_normal, upd_same, upd_other, updO_some, ev_tmp, insVc, loadV_some, loadNK, loadNO_cells, extK, ne_eq, not_false_eq_true, Nat.reduceEqDiff, Nat.reduceAdd, Nat.reduceLeDiff, List.map_cons, List.map_nil, List.getElem?_cons_zero, List.getElem?_cons_succ, List.getElem?_toArray, List.size_toArray, List.length_cons, List.length_nil, true_and, Nat.zero_add, List.extract_toArray, List.extract_eq_take_drop, List.drop_zero, List.take_zero, List.take_succ_cons, Nat.sub_zero, y2, h9]
      refine madd_c (shelf sb mb h0) (c, map) y m u2 _ hs2 hgu2 (by omega) hy1 ⟨hy3, hy2, by omega⟩ (show c < maxLen by simp only [maxLen]; omega) ?_ hgu2.lt ?_
      · show (shelf sb mb h0).fit ((shelf sb mb h0).put (c, map) (keysR y).1 (mbytes y)).2
        have e : (shelf sb mb h0).put (c, map) (keysR y).1 (mbytes y) = if (keysR y).1.size > 255 ∨ (mbytes y).size > 65536 then (5, (c, map)) else (0, (c + 1, putM (keysR y).1.data.toList (mbytes y).data.toList map)) := rfl
        rw [e]
        split
        · show c < maxLen
          simp only [maxLen]; omega
        · show c + 1 < maxLen
          simp only [maxLen]; omega
      intro u4 hm4 hs4
      have hm4' : Mod (fun k => k = mb) u2 u4 := hm4
      have hmu4 : Mod (fun k => k = mb) w3 u4 := (hmu.trans (hmu2.mono fun _ _ x => x.elim)).trans hm4'
      have hbx4 := hbx2.modMap hs2.2.1 hm4'
      have hBany : ∀ z ∈ (addR y B).1, z.any := by
        intro z hz
        unfold addR at hz
        split at hz
        · exact hBa z hz
        split at hz
        · exact hBa z hz
        · rcases insR_mem.1 hz with rfl | hz
          · exact ⟨hy1, hy2, hy3⟩
          · exact hBa z hz
      have hk0 : (keysR y).2.2 = 0 := by rw [keysR_eq y hyf]
      simp only [vc_ops, vcOps_nil, vcOps_cons, goL_apply, thenQ_normal, blockQ_normal, upd_same, upd_other, updO_some, ev_tmp, ev_const, insVc, loadV_some, iopK, iopV, ne_eq, not_false_eq_true, Nat.reduceEqDiff, reduceCtorEq, true_and, or_false, h2, h5, h7, h8, h9, h44, h45, h46, hw1]
      by_cases hf : findL y.queue y.id B 0 ≥ 0
      · have hadd : (addR y B).1 = B := by unfold addR; rw [if_neg (by simpa using hk0), if_pos hf]
        rw [hmd1 hf] at hs4
        rw [hadd] at hbx4 hBany
        exact ⟨L.length - (i + 1), by omega, i + 1, B, v2, c, map, by omega, rfl, rfl, rfl, hmu4, hbx4, hs4, hr, by omega, by omega, by omega, hBany⟩
      · obtain ⟨c5', map5, e5, hc5, hl5, hr5⟩ := hmd2 hf
        have hadd : (addR y B).1 = insR y B := by unfold addR; rw [if_neg (by simpa using hk0), if_neg hf]
        rw [e5] at hs4
        rw [hadd] at hbx4 hBany
        exact ⟨L.length - (i + 1), by omega, i + 1, insR y B, v2, c5', map5, by omega, rfl, rfl, rfl, hmu4, hbx4, hs4, hr5, by omega, by omega, by rw [insR_length]; omega, hBany⟩
    · have d4 : ¬ (i : Int) < ((L.length : Nat) : Int) := by omega
      simp only [vc_seq, vc_cond, vc_exit, vc_ops, vcOps_nil, vcOps_cons, goL_apply, thenQ_normal, thenQ_exit, blockQ_same, condP_false, upd_same, updO_some, ev_tmp, insVc, loadV_some, iopK, iopV, reduceCtorEq, true_and, or_false, decide_false, h45, h46, d4]
      exact mrows_tail B map c x now most m sb mb h0 v' _ w u K hmost hn (by omega) hr (by omega) (by omega) (by omega) hx c3 hg hmwu hbx hsu (by omega) x3 o3 r3 h0w (by simp only [upd_other, ne_eq, not_false_eq_true, Nat.reduceEqDiff, h2]) (by simp only [upd_other, ne_eq, not_false_eq_true, Nat.reduceEqDiff, h5]) (by simp only [upd_other, ne_eq, not_false_eq_true, Nat.reduceEqDiff, h7]) (by simp only [upd_other, ne_eq, not_false_eq_true, Nat.reduceEqDiff, h8]) (by simp only [upd_other, ne_eq, not_false_eq_true, Nat.reduceEqDiff, h9]) (by simp only [upd_other, ne_eq, not_false_eq_true, Nat.reduceEqDiff, h10]) h

end Go.Oct
