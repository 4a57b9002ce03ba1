import Derived.Test.YtpggpopbkmgodaaGreatDoorClaimKitA
set_option linter.unusedSimpArgs false
set_option linter.unusedVariables false
set_option linter.unusedSectionVars false
set_option linter.unnecessarySimpa false
namespace Go.Proofs.YtpggpopbkmgodaaGreatDoor
open Go Go.ChangeShapes Go.WideShapes Go.ChangeAt Go.RowKit
set_option maxRecDepth 100000
theorem tr_inPlace : (Rows.tallyRepliesRow.inPlace == Tryz.pinned.checked.prog.inPlace 4) = true:=by kernel_rfl
theorem tr_unfollowed : (Rows.tallyRepliesRow.unfollowed == Tryz.pinned.checked.prog.unfollowed 4) = true:=by kernel_rfl
theorem tr_recurses : (Rows.tallyRepliesRow.recurses == Tryz.pinned.checked.prog.recurses 4) = true:=by kernel_rfl
theorem tr_named : (Rows.tallyRepliesRow.named == Tryz.pinned.checked.prog.varsNamed 4) = true:=by kernel_rfl
theorem tr_func : Tryz.pinned.checked.prog.funcNamed Rows.tallyRepliesRow.func = some 4:=by kernel_rfl
theorem tr_laidOut : laidOutB Tryz.pinned.checked.prog = true:=Tryz.laidOut
theorem tr_closed : joinedFacts Tryz.pinned.checked.prog 4 Tryz.f4 Rows.tallyRepliesSpec Rows.tallyRepliesRow = true:=by
  unfold joinedFacts
  rw [tr_inPlace,tr_unfollowed,tr_recurses,tr_named,tr_laidOut]
  kernel_rfl
theorem tr_instance : Tryz.f4.isInstance Tryz.pinned.checked.prog Rows.tallyRepliesRow.origin Rows.tallyRepliesRow.targs:=of_decide_eq_true (by kernel_rfl)
theorem tr_wrapper : Tryz.f4.isWrapper Tryz.pinned.checked.prog Rows.tallyRepliesRow.wrapper Rows.tallyRepliesRow.mainSum:=by
  unfold Func.isWrapper; first | (rw [if_pos (by decide +kernel)]; kernel_rfl) | (rw [if_neg (by decide +kernel)]; exact ⟨rfl,rfl⟩)
theorem tr_wf : Rows.tallyRepliesRow.wfByText (OpenSpec.ofChange Rows.tallyRepliesSpec) = true:=by kernel_rfl
theorem tr_main : Tryz.pinned.checked.prog.mainIs = some (true,"c8bf313fa9f288196b36eee2dd721b0fa52b64a9da87e2fff002dcd1b251894e".toList):=by kernel_rfl
theorem tr_looks : false = Tryz.pinned.checked.prog.looks []:=by kernel_rfl
theorem tr_standIns : ([47].all fun u => !Tryz.prog.wantsStandIn u) = true:=by kernel_rfl
theorem tr_goes : false = Rows.tallyRepliesRow.goesBy Tryz.pinned.checked.prog:=by kernel_rfl
end Go.Proofs.YtpggpopbkmgodaaGreatDoor
