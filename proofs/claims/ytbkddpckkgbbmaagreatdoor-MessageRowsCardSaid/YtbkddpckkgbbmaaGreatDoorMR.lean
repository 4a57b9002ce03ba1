/-
  The card of taprootlaw22.MessageRows: for every row of messages, every stray message, every time and every bound the law's function returns true, and all read as they did; the listed tables hold what the program's text lays; of internal/bytealg.MaxLen it speaks for every value.
-/
import Derived.Test.YtbkddpckkgbbmaaGreatDoorKitA
import Derived.Test.YtbkddpckkgbbmaaGreatDoorVtB
import Derived.Test.YtbkddpckkgbbmaaGreatDoorVqP
set_option linter.unusedSimpArgs false
set_option linter.unusedVariables false
set_option linter.unusedSectionVars false
set_option linter.unnecessarySimpa false
namespace Go.Proofs.YtbkddpckkgbbmaaGreatDoor
open Go Go.ChangeShapes Go.WideShapes Go.ChangeAt Go.RowKit
set_option maxRecDepth 100000

theorem messageRows_lifted (os : Os) (started : os.Started) (H : Type) (enc : TypeId × Value → H) :
    ReturnsInHanded {} Tryz.checked os 4 .any (fun w args => (Rows.messageRowsSpec.pre enc Tryz.prog Tryz.f4 [] false w args ∧ laidMetH Tryz.prog Rows.messageRowsRow.laid w) ∧ sizedMet enc Tryz.prog Tryz.f4 (OpenSpec.ofChange Rows.messageRowsSpec) false w args)
      (Rows.messageRowsSpec.post enc Tryz.prog Tryz.f4 false true false false) := by
  refine shaped_and (C := Tryz.checked) (X := fun w _ => laidMetH Tryz.prog Rows.messageRowsRow.laid w) (fun _ _ _ hh h => h.of_heap hh) Tryz.own started (by kernel_rfl) Tryz.func4
    (ChangeSpec.witness_shaped (enc := enc) (C := Tryz.checked) (os := os) (X := fun w _ => laidMetH Tryz.prog Rows.messageRowsRow.laid w) false (World.laidAll Tryz.prog os Rows.messageRowsRow.laid) #[.slice none 0 0, .agg #[.string ⟨#[]⟩, .int .u64 0, .int .u32 0, .int .u64 0, .string ⟨#[]⟩], .int .u64 0, .int .u8 0] 8 (World.laidAll_os _ _ _)
      (World.shaped_of_ZipB (by kernel_rfl) (by kernel_rfl)) (by kernel_rfl) (by kernel_rfl) (by kernel_rfl)
      (by rw [MakeChecks.laidMetH_plain _ _ _ (by kernel_rfl)]; exact laidMet_laidAll _ (by kernel_rfl) (by kernel_rfl))) ?_
  intro W base args ds gs before hval0 hW _ hsh
  have hval : ∀ (j : Nat) t v, Tryz.f4.params[j]? = some t → args[j]? = some v → Value.okWide Tryz.prog W .any base t v := hval0
  have hW' := hW
  obtain ⟨p, q, hA0, hV, rfl, _, _⟩ := hW
  have hA : DataW.TrodAll enc Tryz.prog W 0 (fun _ => true) true Tryz.f4.params.toList args.toList ds p := hA0
  rw [Tryz.params4] at hA hval
  obtain ⟨v0, v1, v2, v3, d0, d1, d2, d3, p0, p1, p2, p3, rfl, rfl, rfl, h0, h1, h2, h3⟩ := trodAll_four hA
  obtain ⟨rfl, rfl⟩ := trodVars_none hV
  obtain ⟨m, hm⟩ := cell_of_shapedOpen_int (P := Tryz.prog) (g := 0) (t := 3) (zero := #[.int .i64 0]) hsh (of_decide_eq_true (by kernel_rfl)) (by kernel_rfl) rfl (by kernel_rfl) (by kernel_rfl) Tryz.underlying3
  obtain ⟨n2, rfl, rfl, rfl, w2⟩ := open_int Tryz.underlying31 (hval 2 31 v2 rfl rfl) h2
  obtain ⟨n3, rfl, rfl, rfl, w3⟩ := open_int Tryz.underlying5 (hval 3 5 v3 rfl rfl) h3
  obtain ⟨k2, rfl, b2⟩ := Go.Oct.wf_u64 w2
  obtain ⟨k3, rfl, b3⟩ := Go.Oct.wf_u8 w3
  obtain ⟨cs, rfl, _⟩ := okWide_struct (by kernel_rfl : Tryz.prog.underlying 49 = some (.struct (Tryz.prog.fieldsOf 49))) (hval 1 49 v1 rfl rfl)
  obtain ⟨x, hx, x1, x2, x3, _, _⟩ : ∃ q : Go.Oct.Ms, cs.toList = q.cells ∧ q.id < 2 ^ 64 ∧ q.expiry < 2 ^ 64 ∧ q.tries < 2 ^ 32 ∧ q.queue.size ≤ maxLen ∧ q.body.size ≤ maxLen := by
    obtain ⟨fuel, hf⟩ := id h1
    exact Go.Oct.trod_ms _ _ _ hf
  have hxv : cs = x.cells.toArray := by rw [← hx]
  subst hxv
  obtain ⟨a0, len, cap, rfl⟩ := okWide_slice (by kernel_rfl : Tryz.prog.underlying 47 = some (.slice 49)) (hval 0 47 v0 rfl rfl)
  obtain ⟨l, rfl, hl, _, _, _, hat⟩ : ∃ l : List Go.Oct.Ms, len = l.length ∧ (∀ v ∈ l, v.id < 2 ^ 64 ∧ v.expiry < 2 ^ 64 ∧ v.tries < 2 ^ 32 ∧ v.queue.size ≤ maxLen ∧ v.body.size ≤ maxLen) ∧ (a0 = none → len = 0 ∧ cap = 0) ∧ len ≤ cap ∧ cap ≤ maxLen ∧
      ∀ (i : Nat) v, l[i]? = some v → ∃ b o cur t f, a0 = some ⟨b, o, none⟩ ∧ W.heap[b]? = some (.cells cur t f) ∧ o + i * 5 + 5 ≤ cur.size ∧ cur.extract (o + i * 5) (o + i * 5 + 5) = (Go.Oct.Ms.cells v).toArray := by
    obtain ⟨fuel, hf⟩ := id h0
    exact Go.Vc.slice_list Go.Oct.Ms.cells _ 5 (by decide) (by kernel_rfl : Tryz.prog.underlying 47 = some (.slice 49)) (by kernel_rfl) Go.Oct.trod_ms hf
  have hbx : Go.Oct.IsBx W (.slice a0 l.length cap) l := ⟨⟨_, _, rfl⟩, fun i v hv => by
    obtain ⟨b, o, cur, t, f, rfl, hb, hsz, hex⟩ := hat i v hv
    exact ⟨b, o, cap, cur, t, f, rfl, hb, hsz, hex⟩⟩
  have hk : Go.Vc.Ok Tryz.prog 4 #[.slice a0 l.length cap, .agg x.cells.toArray, .int .u64 k2, .int .u8 k3] W (fun v W' => v = .bool true ∧ Go.Vc.Mod (fun _ => False) W W') :=
    Go.Oct.mrows_c l (.slice a0 l.length cap) x k2 k3 m W _ hm hbx (fun y hy => ⟨(hl y hy).1, (hl y hy).2.1, (hl y hy).2.2.1⟩) ⟨x1, x2, x3⟩ b2 b3 (fun w' hw => ⟨rfl, hw⟩)
  have hlt0 : ∀ x ∈ p0, x.block < W.heap.size := fun x hx => by simpa using hW'.lt x (by simp [hx])
  have hlt1 : ∀ x ∈ p1, x.block < W.heap.size := fun x hx => by simpa using hW'.lt x (by simp [hx])
  refine (callsIn_wide.1 hk.2).mono ?_
  rintro e W' ⟨v, rfl, rfl, hmod⟩
  have hb := hmod.below
  exact ⟨_, rfl, _, _, _, [], p0 ++ (p1 ++ ([] ++ [])), [], hW', trodAll_mk1 (shut_bool Tryz.underlying4 _),
    trodAll_mk4 (Below.trod Tryz.laidOut (by kernel_rfl) (of_decide_eq_true (by kernel_rfl)) h0 hb hlt0) (Below.trod Tryz.laidOut (by kernel_rfl) (of_decide_eq_true (by kernel_rfl)) h1 hb hlt1) (shut_int Tryz.underlying31 w2) (shut_int Tryz.underlying5 w3), rfl, hb.frame _, fun h => by cases h⟩

theorem messageRows_holds : Rows.MessageRowsSaid :=
  OpenClaim.holds_of_wide 4 Tryz.f4 rfl rfl rfl rfl rfl rfl rfl ⟨rfl, rfl, rfl, rfl, rfl⟩ rfl rfl rfl rfl rfl (by kernel_rfl) Tryz.func4 (by kernel_rfl)
    (of_decide_eq_true (by kernel_rfl)) (by unfold Func.isWrapper; first | (rw [if_pos (by decide +kernel)]; kernel_rfl) | (rw [if_neg (by decide +kernel)]; exact ⟨rfl, rfl⟩))
    (fun os started H enc _ => messageRows_lifted os started H enc)

theorem messageRows_card_holds : Rows.MessageRowsCardSaid :=
  Claim7.holds_tied_plain_at .later [] [.data, .pinned] true (true, "246cd41ad2a9ceb12c06a4759cbd6c365e8c9c386bd35b4f665a6107fa427223") false messageRows_holds (fun _ h => by cases h) (by kernel_rfl) (fun _ h => by cases h) messageRows_row_tie rfl ⟨rfl, rfl⟩ (by kernel_rfl) rfl
    (fun f fn hf hfn => by
      obtain rfl : f = 4 := Option.some.inj ((show Tryz.prog.funcNamed "taproot/taprootlaw22.MessageRows" = some 4 by kernel_rfl).symm.trans hf) |>.symm
      obtain rfl : fn = Tryz.f4 := (Option.some.inj (Tryz.func4.symm.trans hfn)).symm
      exact ⟨by kernel_rfl, fun j t ht => by
        rw [Tryz.params4] at ht
        have hm : t ∈ [47, 49, 31, 5] := by simpa using Array.mem_of_getElem? ht
        have hall : ([47, 49, 31, 5].all fun u => !Tryz.prog.wantsStandIn u) = true := by kernel_rfl
        exact (show Tryz.prog.wantsStandIn t = false by simpa using List.all_eq_true.1 hall t hm)⟩)
    (by kernel_rfl)
#print axioms messageRows_card_holds
end Go.Proofs.YtbkddpckkgbbmaaGreatDoor
