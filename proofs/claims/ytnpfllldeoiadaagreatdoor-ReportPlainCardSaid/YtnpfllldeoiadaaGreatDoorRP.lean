/-
  The card of taprootlaw29.ReportPlain: for every reply, every dump and every report the law's function returns true, and all read as they did; the listed tables hold what the program's text lays; of internal/bytealg.MaxLen it speaks for every value.
-/
import Derived.Test.YtnpfllldeoiadaaGreatDoorKitA
import Derived.Test.YtnpfllldeoiadaaGreatDoorVtE
import Derived.Test.YtnpfllldeoiadaaGreatDoorVyQ
set_option linter.unusedSimpArgs false
set_option linter.unusedVariables false
set_option linter.unusedSectionVars false
set_option linter.unnecessarySimpa false
namespace Go.Proofs.YtnpfllldeoiadaaGreatDoor
open Go Go.ChangeShapes Go.WideShapes Go.ChangeAt Go.RowKit
set_option maxRecDepth 100000

/-- the wrap that hands on the world's shape, the row's other condition and the weights. -/
theorem shaped_sized {H : Type} {enc : TypeId × Value → H} {a : Assume} {C : Checked} {os : Os} {f : FuncId} {fn : Func} {s : ChangeSpec} {conds : List PathCond} {apart fresh handsOn again : Bool} {X : World → Array Value → Prop}
    (hX : ∀ (w w' : World) (args : Array Value), w.heap = w'.heap → X w args → X w' args)
    (own : ownKnob C.prog.godebug = none) (started : os.Started) (noInit : C.prog.inits.idxOf? f = none) (hfn : C.prog.funcs[f]? = some fn)
    (witness : ∃ (w : World) (tape : Tape) (i : Input), w.os = os ∧ (w.forCall tape i).Shaped C.prog ∧ i.vars = [] ∧ Input.okWide C.prog (w.forCall tape i) .any w.heap.size f i ∧
      ((s.pre enc C.prog fn conds apart (w.forCall tape i).memory i.args ∧ X (w.forCall tape i).memory i.args) ∧ sizedMet enc C.prog fn (OpenSpec.ofChange s) apart (w.forCall tape i).memory i.args) ∧ a.holds C.prog (lone (Frame.enter C.prog f i.args .normal) [] (w.forCall tape i)))
    (contract : ∀ (W : World) (base : Nat) (args : Array Value) (ds gs : List (DataW H)) (before : List MemPlace),
      (∀ (j : Nat) t v, fn.params[j]? = some t → args[j]? = some v → Value.okWide C.prog W .any base t v) →
      DataW.Whole enc C.prog fn.params.toList s.vars apart W args.toList ds gs before →
      (DataW.weightsEach C.prog (fn.params.toList ++ (OpenSpec.ofChange s).bare.plain.varTypes C.prog) (ds ++ gs)).all (· ≤ reachBytes) = true → X W args → W.ShapedOpen C.prog →
      Calls C.prog f args W fun e W' => ∃ v, e = .returned v ∧ s.post enc C.prog fn apart fresh handsOn again W args v W') :
    ReturnsInHanded a C os f .any (fun w args => (s.pre enc C.prog fn conds apart w args ∧ X w args) ∧ sizedMet enc C.prog fn (OpenSpec.ofChange s) apart w args) (s.post enc C.prog fn apart fresh handsOn again) := by
  refine returnsInHanded_of_calls own started noInit witness ?_
  intro w tape i _ hsh _ hok hpre _
  obtain ⟨_, _, _, fn', hfn', _, _, _, _, hval⟩ := hok
  obtain rfl : fn' = fn := Option.some.inj (hfn'.symm.trans hfn)
  obtain ⟨⟨_, hx⟩, _, ds, gs, before, hw, hwt⟩ := hpre
  refine (contract (w.forCall tape i) w.heap.size i.args ds gs before hval (DataW.Whole.of_heap (w' := w.forCall tape i) (by rfl) hw) hwt (hX _ _ _ (by rfl) hx) hsh).mono ?_
  rintro e W' ⟨v, rfl, hp⟩
  exact ChangeSpec.post_blind hp

theorem pow10_data {H : Type} : (Rows.laid_internal_strconv_uint64pow10 : DataW H) = Lib.tabData .u64 Lib.pow10Tab := by rfl

theorem tab_of {W : World} (h : laidMetH Tryz.prog Rows.reportPlainRow.laid W) : Go.Oct.Tab W := by
  rw [MakeChecks.laidMetH_plain _ _ _ (by kernel_rfl)] at h
  obtain ⟨ps, hv, _⟩ := h
  obtain ⟨_, _, _, _, _, q1, _, _, _, _, hv1, _⟩ := hv
  obtain ⟨_, _, _, _, _, q2, _, _, _, _, hv2, _⟩ := hv1
  obtain ⟨g, t, cs, fuel, p, q3, hg, hty, hvar, hd, _, _⟩ := hv2
  rw [pow10_data] at hd
  have hg' : Tryz.prog.globalNamed "internal/strconv.uint64pow10" = some g := hg
  have e1 : ((Tryz.prog.globalNamed "internal/strconv.uint64pow10").bind fun g => (Tryz.prog.globals[g]?).map (·.type)) = some 160 := by kernel_rfl
  rw [hg', Option.bind_some, hty] at e1
  obtain rfl := Option.some.inj e1
  have hc := Lib.cells_of_tab (by kernel_rfl : Tryz.prog.underlying 160 = some (.array 20 23)) Tryz.underlying23 (by kernel_rfl) (by kernel_rfl) hd
  unfold Go.Oct.Tab Lib.TabIs
  rw [hvar, ← hc]

theorem reportPlain_lifted (os : Os) (started : os.Started) (H : Type) (enc : TypeId × Value → H) :
    ReturnsInHanded {} Tryz.checked os 4 .any (fun w args => (Rows.reportPlainSpec.pre enc Tryz.prog Tryz.f4 [] false w args ∧ laidMetH Tryz.prog Rows.reportPlainRow.laid w) ∧ sizedMet enc Tryz.prog Tryz.f4 (OpenSpec.ofChange Rows.reportPlainSpec) false w args)
      (Rows.reportPlainSpec.post enc Tryz.prog Tryz.f4 false true false false) := by
  refine shaped_sized (C := Tryz.checked) (X := fun w _ => laidMetH Tryz.prog Rows.reportPlainRow.laid w) (fun _ _ _ hh h => h.of_heap hh) Tryz.own started (by kernel_rfl) Tryz.func4
    (ChangeSpec.witness_shaped (enc := enc) (C := Tryz.checked) (os := os) (X := fun w _ => laidMetH Tryz.prog Rows.reportPlainRow.laid w) false (World.laidAll Tryz.prog os Rows.reportPlainRow.laid)
      #[.agg #[.int .i64 0, .int .u64 0, .slice none 0 0, .slice none 0 0, .slice none 0 0, .slice none 0 0], .agg #[.int .u64 0, .int .u64 0, .slice none 0 0, .slice none 0 0, .slice none 0 0], .agg #[.slice none 0 0, .slice none 0 0, .slice none 0 0, .slice none 0 0, .slice none 0 0, .slice none 0 0, .int .i64 0, .int .u64 0, .int .i64 0]] 8 (World.laidAll_os _ _ _)
      (World.shaped_of_ZipB (by kernel_rfl) (by kernel_rfl)) (by kernel_rfl) (by kernel_rfl) (by kernel_rfl)
      (by rw [MakeChecks.laidMetH_plain _ _ _ (by kernel_rfl)]; exact laidMet_laidAll _ (by kernel_rfl) (by kernel_rfl))) ?_
  intro W base args ds gs before hval0 hW hwt hX hsh
  have hval : ∀ (j : Nat) t v, Tryz.f4.params[j]? = some t → args[j]? = some v → Value.okWide Tryz.prog W .any base t v := hval0
  have hW' := hW
  obtain ⟨p, q, hA0, hV, rfl, _, _⟩ := hW
  have hA : DataW.TrodAll enc Tryz.prog W 0 (fun _ => true) true Tryz.f4.params.toList args.toList ds p := hA0
  rw [Tryz.params4] at hA hval
  have hwt1 : (DataW.weightsEach Tryz.prog (Tryz.f4.params.toList ++ (OpenSpec.ofChange Rows.reportPlainSpec).bare.plain.varTypes Tryz.prog) (ds ++ gs)).all (· ≤ reachBytes) = true := hwt
  rw [Tryz.params4] at hwt1
  obtain ⟨v0, v1, v2, d0, d1, d2, p0, p1, p2, rfl, rfl, rfl, h0, h1, h2⟩ := trodAll_three hA
  obtain ⟨rfl, rfl⟩ := trodVars_none hV
  have hwd : ∀ k ∈ DataW.weights Tryz.prog 31 d1, k ≤ reachBytes := fun k hk => by
    have := List.all_eq_true.1 hwt1 k (DataW.weights_mem_each (j := 1) (t := 31) (d := d1) rfl rfl k hk)
    simpa using this
  obtain ⟨m, hm⟩ := cell_of_shapedOpen_int (P := Tryz.prog) (g := 0) (t := 3) (zero := #[.int .i64 0]) hsh (of_decide_eq_true (by kernel_rfl)) (by kernel_rfl) rfl (by kernel_rfl) (by kernel_rfl) Tryz.underlying3
  obtain ⟨c0, rfl, _⟩ := okWide_struct (by kernel_rfl : Tryz.prog.underlying 27 = some (.struct (Tryz.prog.fieldsOf 27))) (hval 0 27 v0 rfl rfl)
  obtain ⟨c1, rfl, _⟩ := okWide_struct (by kernel_rfl : Tryz.prog.underlying 31 = some (.struct (Tryz.prog.fieldsOf 31))) (hval 1 31 v1 rfl rfl)
  obtain ⟨c2, rfl, _⟩ := okWide_struct (by kernel_rfl : Tryz.prog.underlying 34 = some (.struct (Tryz.prog.fieldsOf 34))) (hval 2 34 v2 rfl rfl)
  obtain ⟨x1, x2, x3, x4, r, hx, hr⟩ : ∃ x1 x2 x3 x4 r, c0.toList = [.int .i64 r.err, .int .u64 r.n, x1, x2, x3, x4] ∧ Go.Oct.IsRy W x1 x2 x3 x4 r := by
    obtain ⟨fuel, hf⟩ := id h0
    exact Go.Oct.trod_ry _ _ _ hf
  have hxv : c0 = #[.int .i64 r.err, .int .u64 r.n, x1, x2, x3, x4] := by rw [← hx]
  subst hxv
  obtain ⟨y1, y2, y3, d, hy, hd, hsum⟩ : ∃ y1 y2 y3 d, c1.toList = [.int .u64 d.clock, .int .u64 d.last, y1, y2, y3] ∧ Go.Oct.IsDu W y1 y2 y3 d ∧ d.qs.length + d.bs.length + d.ms.length < 2 ^ 62 := by
    obtain ⟨fuel, hf⟩ := id h1
    obtain ⟨y1, y2, y3, d, e, hd⟩ := Go.Oct.trod_du _ _ _ hf
    obtain ⟨⟨a1, k1, e1⟩, _⟩ := id hd.qs
    obtain ⟨⟨a2, k2, e2⟩, _⟩ := id hd.bs
    obtain ⟨⟨a3, k3, e3⟩, _⟩ := id hd.ms
    have hf' := hf
    change DataW.trod enc Tryz.prog W 0 (fun _ => true) true fuel 31 c1.toList = _ at hf'
    have e' : c1.toList = [.int .u64 d.clock, .int .u64 d.last, y1, y2, y3] := e
    rw [e', e1, e2, e3] at hf'
    obtain ⟨b1, b2, b3⟩ := Go.Oct.du_weight _ _ _ _ _ _ _ _ _ _ _ _ _ hf' hwd
    refine ⟨y1, y2, y3, d, e, hd, ?_⟩
    simp only [reachBytes] at b1 b2 b3
    omega
  have hyv : c1 = #[.int .u64 d.clock, .int .u64 d.last, y1, y2, y3] := by rw [← hy]
  subst hyv
  obtain ⟨z1, z2, z3, z4, z5, z6, c, hz, hc⟩ : ∃ z1 z2 z3 z4 z5 z6 c, c2.toList = [z1, z2, z3, z4, z5, z6, .int .i64 c.pairs, .int .u64 c.bytes, .int .i64 c.depth] ∧ Go.Oct.IsRt W z1 z2 z3 z4 z5 z6 c := by
    obtain ⟨fuel, hf⟩ := id h2
    exact Go.Oct.trod_rt _ _ _ hf
  have hzv : c2 = #[z1, z2, z3, z4, z5, z6, .int .i64 c.pairs, .int .u64 c.bytes, .int .i64 c.depth] := by rw [← hz]
  subst hzv
  have hk := Go.Oct.reportPlain_c (K := fun v W' => v = .bool true ∧ Go.Vc.Mod (fun _ => False) W W') m hm (tab_of hX) hr hd hc hsum (fun w' hw => ⟨rfl, hw⟩)
  have hlt0 : ∀ x ∈ p0, x.block < W.heap.size := fun x hx => by simpa using hW'.lt x (by simp [hx])
  have hlt1 : ∀ x ∈ p1, x.block < W.heap.size := fun x hx => by simpa using hW'.lt x (by simp [hx])
  have hlt2 : ∀ x ∈ p2, x.block < W.heap.size := fun x hx => by simpa using hW'.lt x (by simp [hx])
  refine (callsIn_wide.1 hk.2).mono ?_
  rintro e W' ⟨v, rfl, rfl, hmod⟩
  have hb := hmod.below
  exact ⟨_, rfl, _, _, _, [], p0 ++ (p1 ++ p2), [], hW', trodAll_mk1 (shut_bool Tryz.underlying4 _),
    trodAll_mk3 (Below.trod Tryz.laidOut (by kernel_rfl) (of_decide_eq_true (by kernel_rfl)) h0 hb hlt0) (Below.trod Tryz.laidOut (by kernel_rfl) (of_decide_eq_true (by kernel_rfl)) h1 hb hlt1) (Below.trod Tryz.laidOut (by kernel_rfl) (of_decide_eq_true (by kernel_rfl)) h2 hb hlt2), rfl, hb.frame _, fun h => by cases h⟩

theorem reportPlain_holds : Rows.ReportPlainSaid :=
  OpenClaim.holds_of_wide 4 Tryz.f4 rfl rfl rfl rfl rfl rfl rfl ⟨rfl, rfl, rfl, rfl, rfl⟩ rfl rfl rfl rfl rfl (by kernel_rfl) Tryz.func4 (by kernel_rfl)
    (of_decide_eq_true (by kernel_rfl)) (by unfold Func.isWrapper; first | (rw [if_pos (by decide +kernel)]; kernel_rfl) | (rw [if_neg (by decide +kernel)]; exact ⟨rfl, rfl⟩))
    (fun os started H enc _ => reportPlain_lifted os started H enc)

theorem reportPlain_card_holds : Rows.ReportPlainCardSaid :=
  Claim7.holds_tied_plain_at .later [] [.data, .data, .data, .data, .pinned] true (true, "d91f02f0ee882e73afeeb7605479a8b88e50dae79b2012443990e1bf52535cf7") false reportPlain_holds (fun _ h => by cases h) (by kernel_rfl) (fun _ h => by cases h) reportPlain_row_tie rfl ⟨rfl, rfl⟩ (by kernel_rfl) rfl
    (fun f fn hf hfn => by
      obtain rfl : f = 4 := Option.some.inj ((show Tryz.prog.funcNamed "taproot/taprootlaw29.ReportPlain" = some 4 by kernel_rfl).symm.trans hf) |>.symm
      obtain rfl : fn = Tryz.f4 := (Option.some.inj (Tryz.func4.symm.trans hfn)).symm
      exact ⟨by kernel_rfl, fun j t ht => by
        rw [Tryz.params4] at ht
        have hm : t ∈ [27, 31, 34] := by simpa using Array.mem_of_getElem? ht
        have hall : ([27, 31, 34].all fun u => !Tryz.prog.wantsStandIn u) = true := by kernel_rfl
        exact (show Tryz.prog.wantsStandIn t = false by simpa using List.all_eq_true.1 hall t hm)⟩)
    (by kernel_rfl)
#print axioms reportPlain_card_holds
end Go.Proofs.YtnpfllldeoiadaaGreatDoor
