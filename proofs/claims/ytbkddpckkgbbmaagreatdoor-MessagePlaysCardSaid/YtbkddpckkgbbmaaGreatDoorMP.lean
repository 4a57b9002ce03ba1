/-
  The card of taprootlaw22.MessagePlays: for every script of calls, every queue's name, every number and every time the law's function returns true, and all read as it did; the listed tables hold what the program's text lays; of internal/bytealg.MaxLen it speaks for every value.
-/
import Derived.Test.YtbkddpckkgbbmaaGreatDoorKitA
import Derived.Test.YtbkddpckkgbbmaaGreatDoorVtB
import Derived.Test.YtbkddpckkgbbmaaGreatDoorVzS
set_option linter.unusedSimpArgs false
set_option linter.unusedVariables false
set_option linter.unusedSectionVars false
set_option linter.unnecessarySimpa false
namespace Go.Oct
open Go Go.Vc Go.ChangeShapes
set_option maxRecDepth 100000

section
variable {H : Type} {enc : TypeId × Value → H} {W : World} {base : Nat} {spare : Nat → Bool} {held : Bool}

/-- a call of the script, opened. -/
theorem trod_ac (n : Nat) (cs : List Value) (y : DataW H × List MemPlace) (h : DataW.trod enc Proofs.Tryz.prog W base spare held n 89 cs = some y) :
    ∃ a : Ac, cs = a.cells ∧ ((a.m.id < 2 ^ 64 ∧ a.m.expiry < 2 ^ 64 ∧ a.m.tries < 2 ^ 32 ∧ a.m.queue.size ≤ maxLen ∧ a.m.body.size ≤ maxLen) ∧ (a.nx.id < 2 ^ 64 ∧ a.nx.expiry < 2 ^ 64 ∧ a.nx.tries < 2 ^ 32 ∧ a.nx.queue.size ≤ maxLen ∧ a.nx.body.size ≤ maxLen)) := by
  have hu : Proofs.Tryz.prog.underlying 89 = some (.struct (Proofs.Tryz.prog.fieldsOf 89)) := by kernel_rfl
  obtain ⟨hl, hf⟩ := trod_fields hu [(3, 0), (49, 1), (49, 6)] (by kernel_rfl) h
  have c11 : Proofs.Tryz.prog.cellsOf 89 = 11 := by kernel_rfl
  have c5 : Proofs.Tryz.prog.cellsOf 49 = 5 := by kernel_rfl
  have ci : Proofs.Tryz.prog.cellsOf 3 = 1 := by kernel_rfl
  have ui : Proofs.Tryz.prog.underlying 3 = some (.int .i64) := by kernel_rfl
  rw [c11] at hl
  match cs, hl with
  | [x0, x1, x2, x3, x4, x5, x6, x7, x8, x9, x10], _ =>
    obtain ⟨_, _, h0⟩ := hf (3, 0) (by simp)
    obtain ⟨_, _, h1⟩ := hf (49, 1) (by simp)
    obtain ⟨_, _, h2⟩ := hf (49, 6) (by simp)
    simp only [c5, ci, List.drop_zero, List.drop_succ_cons, List.take_succ_cons, List.take_zero] at h0 h1 h2
    obtain ⟨n0, e0, _, _⟩ := DataW.trod_int ui h0
    obtain ⟨q1, e1, k1⟩ := trod_ms _ _ _ h1
    obtain ⟨q2, e2, k2⟩ := trod_ms _ _ _ h2
    simp only [List.cons.injEq, and_true] at e0
    subst e0
    refine ⟨⟨n0, q1, q2⟩, ?_, k1, k2⟩
    show _ = Value.int .i64 n0 :: (q1.cells ++ q2.cells)
    rw [← e1, ← e2]; rfl
end
end Go.Oct
namespace Go.Proofs.YtbkddpckkgbbmaaGreatDoor
open Go Go.ChangeShapes Go.WideShapes Go.ChangeAt Go.RowKit
open Go.ChangeMaps (open_string shut_string)
set_option maxRecDepth 100000

theorem messagePlays_lifted (os : Os) (started : os.Started) (H : Type) (enc : TypeId × Value → H) :
    ReturnsInHanded {} Tryz.checked os 7 .any (fun w args => (Rows.messagePlaysSpec.pre enc Tryz.prog Tryz.f7 [] false w args ∧ laidMetH Tryz.prog Rows.messagePlaysRow.laid w) ∧ sizedMet enc Tryz.prog Tryz.f7 (OpenSpec.ofChange Rows.messagePlaysSpec) false w args)
      (Rows.messagePlaysSpec.post enc Tryz.prog Tryz.f7 false true false false) := by
  refine shaped_and (C := Tryz.checked) (X := fun w _ => laidMetH Tryz.prog Rows.messagePlaysRow.laid w) (fun _ _ _ hh h => h.of_heap hh) Tryz.own started (by kernel_rfl) Tryz.func7
    (ChangeSpec.witness_shaped (enc := enc) (C := Tryz.checked) (os := os) (X := fun w _ => laidMetH Tryz.prog Rows.messagePlaysRow.laid w) false (World.laidAll Tryz.prog os Rows.messagePlaysRow.laid) #[.slice none 0 0, .string ⟨#[]⟩, .int .u64 0, .int .u64 0] 8 (World.laidAll_os _ _ _)
      (World.shaped_of_ZipB (by kernel_rfl) (by kernel_rfl)) (by kernel_rfl) (by kernel_rfl) (by kernel_rfl)
      (by rw [MakeChecks.laidMetH_plain _ _ _ (by kernel_rfl)]; exact laidMet_laidAll _ (by kernel_rfl) (by kernel_rfl))) ?_
  intro W base args ds gs before hval0 hW _ hsh
  have hval : ∀ (j : Nat) t v, Tryz.f7.params[j]? = some t → args[j]? = some v → Value.okWide Tryz.prog W .any base t v := hval0
  have hW' := hW
  obtain ⟨p, q, hA0, hV, rfl, _, _⟩ := hW
  have hA : DataW.TrodAll enc Tryz.prog W 0 (fun _ => true) true Tryz.f7.params.toList args.toList ds p := hA0
  rw [Tryz.params7] at hA hval
  obtain ⟨v0, v1, v2, v3, d0, d1, d2, d3, p0, p1, p2, p3, rfl, rfl, rfl, h0, h1, h2, h3⟩ := trodAll_four hA
  obtain ⟨rfl, rfl⟩ := trodVars_none hV
  obtain ⟨m, hm⟩ := cell_of_shapedOpen_int (P := Tryz.prog) (g := 0) (t := 3) (zero := #[.int .i64 0]) hsh (of_decide_eq_true (by kernel_rfl)) (by kernel_rfl) rfl (by kernel_rfl) (by kernel_rfl) Tryz.underlying3
  obtain ⟨n2, rfl, rfl, rfl, w2⟩ := open_int Tryz.underlying31 (hval 2 31 v2 rfl rfl) h2
  obtain ⟨n3, rfl, rfl, rfl, w3⟩ := open_int Tryz.underlying31 (hval 3 31 v3 rfl rfl) h3
  obtain ⟨k2, rfl, b2⟩ := Go.Oct.wf_u64 w2
  obtain ⟨k3, rfl, b3⟩ := Go.Oct.wf_u64 w3
  obtain ⟨q, rfl, rfl, rfl, hqs⟩ := open_string Tryz.underlying9 (hval 1 9 v1 rfl rfl) h1
  obtain ⟨a0, len, cap, rfl⟩ := okWide_slice (by kernel_rfl : Tryz.prog.underlying 86 = some (.slice 89)) (hval 0 86 v0 rfl rfl)
  obtain ⟨l, rfl, hl, _, hlc, hcm, hat⟩ : ∃ l : List Go.Oct.Ac, len = l.length ∧ (∀ a ∈ l, (a.m.id < 2 ^ 64 ∧ a.m.expiry < 2 ^ 64 ∧ a.m.tries < 2 ^ 32 ∧ a.m.queue.size ≤ maxLen ∧ a.m.body.size ≤ maxLen) ∧ (a.nx.id < 2 ^ 64 ∧ a.nx.expiry < 2 ^ 64 ∧ a.nx.tries < 2 ^ 32 ∧ a.nx.queue.size ≤ maxLen ∧ a.nx.body.size ≤ maxLen)) ∧ (a0 = none → len = 0 ∧ cap = 0) ∧ len ≤ cap ∧ cap ≤ maxLen ∧
      ∀ (i : Nat) v, l[i]? = some v → ∃ b o cur t f, a0 = some ⟨b, o, none⟩ ∧ W.heap[b]? = some (.cells cur t f) ∧ o + i * 11 + 11 ≤ cur.size ∧ cur.extract (o + i * 11) (o + i * 11 + 11) = (Go.Oct.Ac.cells v).toArray := by
    obtain ⟨fuel, hf⟩ := id h0
    exact Go.Vc.slice_list Go.Oct.Ac.cells _ 11 (by decide) (by kernel_rfl : Tryz.prog.underlying 86 = some (.slice 89)) (by kernel_rfl) Go.Oct.trod_ac hf
  have hbx : Go.Oct.IsAcs W (.slice a0 l.length cap) l := ⟨⟨_, _, rfl⟩, fun i v hv => by
    obtain ⟨b, o, cur, t, f, rfl, hb, hsz, hex⟩ := hat i v hv
    exact ⟨b, o, cap, cur, t, f, rfl, hb, hsz, hex⟩⟩
  have hk : Go.Vc.Ok Tryz.prog 7 #[.slice a0 l.length cap, .string q, .int .u64 k2, .int .u64 k3] W (fun v W' => v = .bool true ∧ Go.Vc.Mod (fun _ => False) W W') :=
    Go.Oct.plays22_c l (.slice a0 l.length cap) q k2 k3 m W _ hm hbx (by have : maxLen = 9223372036854775807 := rfl; omega) (fun a ha => ⟨⟨(hl a ha).1.1, (hl a ha).1.2.1, (hl a ha).1.2.2.1⟩, (hl a ha).2.1, (hl a ha).2.2.1, (hl a ha).2.2.2.1⟩) (fun a ha => ⟨(hl a ha).1.2.2.2.1, (hl a ha).2.2.2.2.1, (hl a ha).1.2.2.2.2, (hl a ha).2.2.2.2.2⟩) b2 b3 (fun w' hw => ⟨rfl, hw⟩)
  have hlt0 : ∀ x ∈ p0, x.block < W.heap.size := fun x hx => by simpa using hW'.lt x (by simp [hx])
  refine (callsIn_wide.1 hk.2).mono ?_
  rintro e W' ⟨v, rfl, rfl, hmod⟩
  have hb := hmod.below
  exact ⟨_, rfl, _, _, _, [], p0 ++ ([] ++ ([] ++ [])), [], hW', trodAll_mk1 (shut_bool Tryz.underlying4 _),
    trodAll_mk4 (Below.trod Tryz.laidOut (by kernel_rfl) (of_decide_eq_true (by kernel_rfl)) h0 hb hlt0) (shut_string Tryz.underlying9 hqs) (shut_int Tryz.underlying31 w2) (shut_int Tryz.underlying31 w3), rfl, hb.frame _, fun h => by cases h⟩

theorem messagePlays_holds : Rows.MessagePlaysSaid :=
  OpenClaim.holds_of_wide 7 Tryz.f7 rfl rfl rfl rfl rfl rfl rfl ⟨rfl, rfl, rfl, rfl, rfl⟩ rfl rfl rfl rfl rfl (by kernel_rfl) Tryz.func7 (by kernel_rfl)
    (of_decide_eq_true (by kernel_rfl)) (by unfold Func.isWrapper; first | (rw [if_pos (by decide +kernel)]; kernel_rfl) | (rw [if_neg (by decide +kernel)]; exact ⟨rfl, rfl⟩))
    (fun os started H enc _ => messagePlays_lifted os started H enc)

theorem messagePlays_card_holds : Rows.MessagePlaysCardSaid :=
  Claim7.holds_tied_plain_at .later [] [.data, .pinned] true (true, "246cd41ad2a9ceb12c06a4759cbd6c365e8c9c386bd35b4f665a6107fa427223") false messagePlays_holds (fun _ h => by cases h) (by kernel_rfl) (fun _ h => by cases h) messagePlays_row_tie rfl ⟨rfl, rfl⟩ (by kernel_rfl) rfl
    (fun f fn hf hfn => by
      obtain rfl : f = 7 := Option.some.inj ((show Tryz.prog.funcNamed "taproot/taprootlaw22.MessagePlays" = some 7 by kernel_rfl).symm.trans hf) |>.symm
      obtain rfl : fn = Tryz.f7 := (Option.some.inj (Tryz.func7.symm.trans hfn)).symm
      exact ⟨by kernel_rfl, fun j t ht => by
        rw [Tryz.params7] at ht
        have hm : t ∈ [86, 9, 31, 31] := by simpa using Array.mem_of_getElem? ht
        have hall : ([86, 9, 31, 31].all fun u => !Tryz.prog.wantsStandIn u) = true := by kernel_rfl
        exact (show Tryz.prog.wantsStandIn t = false by simpa using List.all_eq_true.1 hall t hm)⟩)
    (by kernel_rfl)
#print axioms messagePlays_card_holds
end Go.Proofs.YtbkddpckkgbbmaaGreatDoor
