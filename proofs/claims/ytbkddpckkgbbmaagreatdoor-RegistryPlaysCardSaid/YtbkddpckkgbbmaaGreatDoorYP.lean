/-
  The card of taprootlaw21.RegistryPlays: for every script of calls the law's function returns true, and all read as it did; the listed tables hold what the program's text lays; of internal/bytealg.MaxLen it speaks for every value.
-/
import Derived.Test.YtbkddpckkgbbmaaGreatDoorKitA
import Derived.Test.YtbkddpckkgbbmaaGreatDoorVtD
import Derived.Test.YtbkddpckkgbbmaaGreatDoorVgO
set_option linter.unusedSimpArgs false
set_option linter.unusedVariables false
set_option linter.unusedSectionVars false
set_option linter.unnecessarySimpa false
namespace Go.Oct
open Go Go.Vc Go.ChangeShapes
set_option maxRecDepth 100000

section
variable {H : Type} {enc : TypeId × Value → H} {W : World} {base : Nat} {spare : Nat → Bool} {held : Bool}

/-- a call of the script, opened. -/
theorem trod_ag (n : Nat) (cs : List Value) (y : DataW H × List MemPlace) (h : DataW.trod enc Proofs.Tryz.prog W base spare held n 66 cs = some y) :
    ∃ a : Ag, cs = a.cells ∧ ((a.q.most < 2 ^ 32 ∧ a.q.ttl < 2 ^ 64 ∧ a.q.tries < 2 ^ 32) ∧ a.b.inI) ∧ a.szs maxLen := by
  have hu : Proofs.Tryz.prog.underlying 66 = some (.struct (Proofs.Tryz.prog.fieldsOf 66)) := by kernel_rfl
  obtain ⟨hl, hf⟩ := trod_fields hu [(3, 0), (33, 1), (64, 6)] (by kernel_rfl) h
  have c10 : Proofs.Tryz.prog.cellsOf 66 = 10 := by kernel_rfl
  have c5 : Proofs.Tryz.prog.cellsOf 33 = 5 := by kernel_rfl
  have c4 : Proofs.Tryz.prog.cellsOf 64 = 4 := by kernel_rfl
  have ci : Proofs.Tryz.prog.cellsOf 3 = 1 := by kernel_rfl
  have ui : Proofs.Tryz.prog.underlying 3 = some (.int .i64) := by kernel_rfl
  rw [c10] at hl
  match cs, hl with
  | [x0, x1, x2, x3, x4, x5, x6, x7, x8, x9], _ =>
    obtain ⟨_, _, h0⟩ := hf (3, 0) (by simp)
    obtain ⟨_, _, h1⟩ := hf (33, 1) (by simp)
    obtain ⟨_, _, h2⟩ := hf (64, 6) (by simp)
    simp only [c5, c4, ci, Zaw, Zbt, Zay, Zav] at h0 h1 h2
    obtain ⟨n0, e0, _, _⟩ := DataW.trod_int ui h0
    obtain ⟨q1, e1, k1, k2, k3, k4, k5⟩ := trod_qu _ _ _ h1
    obtain ⟨b1, e2, j1, j2, j3, j4⟩ := trod_bd _ _ _ h2
    simp only [List.cons.injEq, and_true] at e0
    subst e0
    refine ⟨⟨n0, q1, ⟨b1.ex, b1.kind, b1.key, b1.queue⟩⟩, ?_, ⟨⟨k1, k2, k3⟩, j1⟩, k4, k5, j2, j3, j4⟩
    show _ = Value.int .i64 n0 :: (q1.cells ++ b1.cells)
    rw [← e1, ← e2]; rfl
end
end Go.Oct
namespace Go.Proofs.YtbkddpckkgbbmaaGreatDoor
open Go Go.ChangeShapes Go.WideShapes Go.ChangeAt Go.RowKit
open Go.ChangeMaps (open_string shut_string)
set_option maxRecDepth 100000

theorem registryPlays_lifted (os : Os) (started : os.Started) (H : Type) (enc : TypeId × Value → H) :
    ReturnsInHanded {} Tryz.checked os 6 .any (fun w args => (Rows.registryPlaysSpec.pre enc Tryz.prog Tryz.f6 [] false w args ∧ laidMetH Tryz.prog Rows.registryPlaysRow.laid w) ∧ sizedMet enc Tryz.prog Tryz.f6 (OpenSpec.ofChange Rows.registryPlaysSpec) false w args)
      (Rows.registryPlaysSpec.post enc Tryz.prog Tryz.f6 false true false false) := by
  refine shaped_and (C := Tryz.checked) (X := fun w _ => laidMetH Tryz.prog Rows.registryPlaysRow.laid w) (fun _ _ _ hh h => h.of_heap hh) Tryz.own started (by kernel_rfl) Tryz.func6
    (ChangeSpec.witness_shaped (enc := enc) (C := Tryz.checked) (os := os) (X := fun w _ => laidMetH Tryz.prog Rows.registryPlaysRow.laid w) false (World.laidAll Tryz.prog os Rows.registryPlaysRow.laid) #[.slice none 0 0] 8 (World.laidAll_os _ _ _)
      (World.shaped_of_ZipB (by kernel_rfl) (by kernel_rfl)) (by kernel_rfl) (by kernel_rfl) (by kernel_rfl)
      (by rw [MakeChecks.laidMetH_plain _ _ _ (by kernel_rfl)]; exact laidMet_laidAll _ (by kernel_rfl) (by kernel_rfl))) ?_
  intro W base args ds gs before hval0 hW _ hsh
  have hval : ∀ (j : Nat) t v, Tryz.f6.params[j]? = some t → args[j]? = some v → Value.okWide Tryz.prog W .any base t v := hval0
  have hW' := hW
  obtain ⟨p, q, hA0, hV, rfl, _, _⟩ := hW
  have hA : DataW.TrodAll enc Tryz.prog W 0 (fun _ => true) true Tryz.f6.params.toList args.toList ds p := hA0
  rw [Tryz.params6] at hA hval
  obtain ⟨v0, d0, rfl, rfl, h0⟩ := trodAll_one hA
  obtain ⟨rfl, rfl⟩ := trodVars_none hV
  obtain ⟨m, hm⟩ := cell_of_shapedOpen_int (P := Tryz.prog) (g := 0) (t := 3) (zero := #[.int .i64 0]) hsh (of_decide_eq_true (by kernel_rfl)) (by kernel_rfl) rfl (by kernel_rfl) (by kernel_rfl) Tryz.underlying3
  obtain ⟨a0, len, cap, rfl⟩ := okWide_slice (by kernel_rfl : Tryz.prog.underlying 62 = some (.slice 66)) (hval 0 62 v0 rfl rfl)
  obtain ⟨l, rfl, hl, _, hlc, hcm, hat⟩ : ∃ l : List Go.Oct.Ag, len = l.length ∧ (∀ a ∈ l, (((a.q.most < 2 ^ 32 ∧ a.q.ttl < 2 ^ 64 ∧ a.q.tries < 2 ^ 32) ∧ a.b.inI) ∧ a.szs maxLen)) ∧ (a0 = none → len = 0 ∧ cap = 0) ∧ len ≤ cap ∧ cap ≤ maxLen ∧
      ∀ (i : Nat) v, l[i]? = some v → ∃ b o cur t f, a0 = some ⟨b, o, none⟩ ∧ W.heap[b]? = some (.cells cur t f) ∧ o + i * 10 + 10 ≤ cur.size ∧ cur.extract (o + i * 10) (o + i * 10 + 10) = (Go.Oct.Ag.cells v).toArray := by
    obtain ⟨fuel, hf⟩ := id h0
    exact Go.Vc.slice_list Go.Oct.Ag.cells _ 10 (by decide) (by kernel_rfl : Tryz.prog.underlying 62 = some (.slice 66)) (by kernel_rfl) Go.Oct.trod_ag hf
  have hbx : Go.Oct.IsAgs W (.slice a0 l.length cap) l := ⟨⟨_, _, rfl⟩, fun i v hv => by
    obtain ⟨b, o, cur, t, f, rfl, hb, hsz, hex⟩ := hat i v hv
    exact ⟨b, o, cap, cur, t, f, rfl, hb, hsz, hex⟩⟩
  have hk : Go.Vc.Ok Tryz.prog 6 #[.slice a0 l.length cap] W (fun v W' => v = .bool true ∧ Go.Vc.Mod (fun _ => False) W W') :=
    Go.Oct.plays21_c l (.slice a0 l.length cap) m W _ hm hbx (by have : maxLen = 9223372036854775807 := rfl; omega) (fun a ha => (hl a ha).1) (fun a ha => (hl a ha).2) (fun w' hw => ⟨rfl, hw⟩)
  have hlt0 : ∀ x ∈ p, x.block < W.heap.size := fun x hx => by simpa using hW'.lt x (by simp [hx])
  refine (callsIn_wide.1 hk.2).mono ?_
  rintro e W' ⟨v, rfl, rfl, hmod⟩
  have hb := hmod.below
  exact ⟨_, rfl, _, _, _, [], p, [], hW', trodAll_mk1 (shut_bool Tryz.underlying4 _),
    trodAll_mk1 (Below.trod Tryz.laidOut (by kernel_rfl) (of_decide_eq_true (by kernel_rfl)) h0 hb hlt0), rfl, hb.frame _, fun h => by cases h⟩

theorem registryPlays_holds : Rows.RegistryPlaysSaid :=
  OpenClaim.holds_of_wide 6 Tryz.f6 rfl rfl rfl rfl rfl rfl rfl ⟨rfl, rfl, rfl, rfl, rfl⟩ rfl rfl rfl rfl rfl (by kernel_rfl) Tryz.func6 (by kernel_rfl)
    (of_decide_eq_true (by kernel_rfl)) (by unfold Func.isWrapper; first | (rw [if_pos (by decide +kernel)]; kernel_rfl) | (rw [if_neg (by decide +kernel)]; exact ⟨rfl, rfl⟩))
    (fun os started H enc _ => registryPlays_lifted os started H enc)

theorem registryPlays_card_holds : Rows.RegistryPlaysCardSaid :=
  Claim7.holds_tied_plain_at .later [] [.data, .pinned] true (true, "246cd41ad2a9ceb12c06a4759cbd6c365e8c9c386bd35b4f665a6107fa427223") false registryPlays_holds (fun _ h => by cases h) (by kernel_rfl) (fun _ h => by cases h) registryPlays_row_tie rfl ⟨rfl, rfl⟩ (by kernel_rfl) rfl
    (fun f fn hf hfn => by
      obtain rfl : f = 6 := Option.some.inj ((show Tryz.prog.funcNamed "taproot/taprootlaw21.RegistryPlays" = some 6 by kernel_rfl).symm.trans hf) |>.symm
      obtain rfl : fn = Tryz.f6 := (Option.some.inj (Tryz.func6.symm.trans hfn)).symm
      exact ⟨by kernel_rfl, fun j t ht => by
        rw [Tryz.params6] at ht
        have hm : t ∈ [62] := by simpa using Array.mem_of_getElem? ht
        have hall : ([62].all fun u => !Tryz.prog.wantsStandIn u) = true := by kernel_rfl
        exact (show Tryz.prog.wantsStandIn t = false by simpa using List.all_eq_true.1 hall t hm)⟩)
    (by kernel_rfl)
#print axioms registryPlays_card_holds
end Go.Proofs.YtbkddpckkgbbmaaGreatDoor
