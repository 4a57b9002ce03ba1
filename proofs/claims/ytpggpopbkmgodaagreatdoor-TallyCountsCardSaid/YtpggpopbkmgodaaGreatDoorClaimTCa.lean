import Derived.Test.YtpggpopbkmgodaaGreatDoorClaimKitA
set_option linter.unusedSimpArgs false
set_option linter.unusedVariables false
set_option linter.unusedSectionVars false
set_option linter.unnecessarySimpa false
namespace Go.Proofs.YtpggpopbkmgodaaGreatDoor
open Go Go.ChangeShapes Go.WideShapes Go.ChangeAt Go.RowKit
set_option maxRecDepth 100000
theorem tc_inPlace:(Rows.tallyCountsRow.inPlace == Tryz.pinned.checked.prog.inPlace 6)=true:=by kernel_rfl
theorem tc_unfollowed:(Rows.tallyCountsRow.unfollowed == Tryz.pinned.checked.prog.unfollowed 6)=true:=by kernel_rfl
theorem tc_recurses:(Rows.tallyCountsRow.recurses == Tryz.pinned.checked.prog.recurses 6)=true:=by kernel_rfl
theorem tc_named:(Rows.tallyCountsRow.named == Tryz.pinned.checked.prog.varsNamed 6)=true:=by kernel_rfl
theorem tc_func:Tryz.pinned.checked.prog.funcNamed Rows.tallyCountsRow.func=some 6:=by kernel_rfl
theorem tc_laidOut:laidOutB Tryz.pinned.checked.prog=true:=Tryz.laidOut
theorem tc_closed:joinedFacts Tryz.pinned.checked.prog 6 Tryz.f6 Rows.tallyCountsSpec Rows.tallyCountsRow=true:=by
 unfold joinedFacts
 rw [tc_inPlace,tc_unfollowed,tc_recurses,tc_named,tc_laidOut]
 kernel_rfl
theorem tc_instance:Tryz.f6.isInstance Tryz.pinned.checked.prog Rows.tallyCountsRow.origin Rows.tallyCountsRow.targs:=of_decide_eq_true (by kernel_rfl)
theorem tc_wrapper:Tryz.f6.isWrapper Tryz.pinned.checked.prog Rows.tallyCountsRow.wrapper Rows.tallyCountsRow.mainSum:=by
 unfold Func.isWrapper;first|(rw [if_pos (by decide +kernel)];kernel_rfl)|(rw [if_neg (by decide +kernel)];exact ⟨rfl,rfl⟩)
theorem tc_wf:Rows.tallyCountsRow.wfByText (OpenSpec.ofChange Rows.tallyCountsSpec)=true:=by kernel_rfl
theorem tc_main:Tryz.pinned.checked.prog.mainIs=some (true,"c8bf313fa9f288196b36eee2dd721b0fa52b64a9da87e2fff002dcd1b251894e".toList):=by kernel_rfl
theorem tc_looks:false=Tryz.pinned.checked.prog.looks []:=by kernel_rfl
theorem tc_standIns:([22,27].all fun u => !Tryz.prog.wantsStandIn u)=true:=by kernel_rfl
theorem tc_goes:false=Rows.tallyCountsRow.goesBy Tryz.pinned.checked.prog:=by kernel_rfl
end Go.Proofs.YtpggpopbkmgodaaGreatDoor
