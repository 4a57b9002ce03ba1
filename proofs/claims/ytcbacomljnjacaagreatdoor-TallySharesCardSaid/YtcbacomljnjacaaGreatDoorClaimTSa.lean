import Derived.Test.YtcbacomljnjacaaGreatDoorClaimKitA
set_option linter.unusedSimpArgs false
set_option linter.unusedVariables false
set_option linter.unusedSectionVars false
set_option linter.unnecessarySimpa false
namespace Go.Proofs.YtcbacomljnjacaaGreatDoor
open Go Go.ChangeShapes Go.WideShapes Go.ChangeAt Go.RowKit
set_option maxRecDepth 100000
theorem ts_inPlace : (Rows.tallySharesRow.inPlace == Tryz.pinned.checked.prog.inPlace 5) = true:=by kernel_rfl
theorem ts_unfollowed : (Rows.tallySharesRow.unfollowed == Tryz.pinned.checked.prog.unfollowed 5) = true:=by kernel_rfl
theorem ts_recurses : (Rows.tallySharesRow.recurses == Tryz.pinned.checked.prog.recurses 5) = true:=by kernel_rfl
theorem ts_named : (Rows.tallySharesRow.named == Tryz.pinned.checked.prog.varsNamed 5) = true:=by kernel_rfl
theorem ts_func : Tryz.pinned.checked.prog.funcNamed Rows.tallySharesRow.func = some 5:=by kernel_rfl
theorem ts_laidOut : laidOutB Tryz.pinned.checked.prog = true:=Tryz.laidOut
theorem ts_closed : joinedFacts Tryz.pinned.checked.prog 5 Tryz.f5 Rows.tallySharesSpec Rows.tallySharesRow = true:=by
  unfold joinedFacts
  rw [ts_inPlace,ts_unfollowed,ts_recurses,ts_named,ts_laidOut]
  kernel_rfl
theorem ts_instance : Tryz.f5.isInstance Tryz.pinned.checked.prog Rows.tallySharesRow.origin Rows.tallySharesRow.targs:=of_decide_eq_true (by kernel_rfl)
theorem ts_wrapper : Tryz.f5.isWrapper Tryz.pinned.checked.prog Rows.tallySharesRow.wrapper Rows.tallySharesRow.mainSum:=by
  unfold Func.isWrapper; first | (rw [if_pos (by decide +kernel)]; kernel_rfl) | (rw [if_neg (by decide +kernel)]; exact ⟨rfl,rfl⟩)
theorem ts_wf : Rows.tallySharesRow.wfByText (OpenSpec.ofChange Rows.tallySharesSpec) = true:=by kernel_rfl
theorem ts_main : Tryz.pinned.checked.prog.mainIs = some (true,"c8bf313fa9f288196b36eee2dd721b0fa52b64a9da87e2fff002dcd1b251894e".toList):=by kernel_rfl
theorem ts_looks : false = Tryz.pinned.checked.prog.looks []:=by kernel_rfl
theorem ts_standIns : ([49,55].all fun u => !Tryz.prog.wantsStandIn u) = true:=by kernel_rfl
theorem ts_goes : false = Rows.tallySharesRow.goesBy Tryz.pinned.checked.prog:=by kernel_rfl
end Go.Proofs.YtcbacomljnjacaaGreatDoor
