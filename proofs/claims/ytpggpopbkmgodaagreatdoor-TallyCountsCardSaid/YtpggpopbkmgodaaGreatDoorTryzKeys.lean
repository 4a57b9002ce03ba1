import Derived.Shelf.SlIter.Nil
import Derived.Shelf.SortM.Plain
import Derived.Shelf.SortM.SortNone
import Derived.Ground.GgzProg
import Derived.Ground.SlgmProg
import Derived.Test.YtpggpopbkmgodaaGreatDoorProg
import Derived.Shelf.SlGeneric
import Derived.Shelf.LaysM
import Derived.Ground.GgwProg
import Derived.Ground.Names2Prog
import Derived.Ground.SlgnProg
set_option linter.unusedSimpArgs false
set_option linter.unusedVariables false
set_option linter.unusedSectionVars false
set_option linter.unnecessarySimpa false
namespace Go.Proofs
open Go.Shelf
def Tryz.keys48_ren:Go.Shelf.Ren:=⟨fun|7=>48|10=>64|n=>n,fun|23=>70|26=>9|3=>42|28=>89|0=>0|27=>88|33=>106|4=>4|n=>n,fun|n=>n⟩
theorem Tryz.keys48:Go.Proofs.SlLaysZ.n7 Tryz.prog Tryz.keys48_ren:={
 mixed:=by kernel_rfl
 f7:=⟨Tryz.f48.name,by decide,Tryz.func48.trans (congrArg some (by kernel_rfl))⟩
 f10:=⟨Tryz.f64.name,by decide,Tryz.func64.trans (congrArg some (by kernel_rfl))⟩
 t0:=Tryz.underlying0
 a0:=Tryz.isAgg0
 z0:=Tryz.sizeOf0
 v0:=Tryz.zeroValue0
 t4:=Tryz.underlying4
 a4:=Tryz.isAgg4
 z4:=Tryz.sizeOf4
 v4:=Tryz.zeroValue4
 t23:=Tryz.underlying70
 a23:=Tryz.isAgg70
 z23:=Tryz.sizeOf70
 v23:=Tryz.zeroValue70
 t26:=Tryz.underlying9
 a26:=Tryz.isAgg9
 z26:=Tryz.sizeOf9
 v26:=Tryz.zeroValue9
 t27:=Tryz.underlying88
 a27:=Tryz.isAgg88
 z27:=Tryz.sizeOf88
 v27:=Tryz.zeroValue88
 t28:=Tryz.underlying89
 a28:=Tryz.isAgg89
 z28:=Tryz.sizeOf89
 v28:=Tryz.zeroValue89
 t33:=Tryz.underlying106
 a33:=Tryz.isAgg106
 z33:=Tryz.sizeOf106
 v33:=Tryz.zeroValue106 }
def Tryz.sorted47_ren:Go.Shelf.Ren:=⟨fun|6=>47|8=>62|9=>63|11=>79|13=>78|12=>80|23=>119|24=>37|14=>120|15=>121|16=>122|17=>123|18=>124|19=>125|20=>126|21=>127|22=>128|25=>190|26=>185|27=>186|28=>191|29=>192|30=>193|31=>249|n=>n,fun|26=>9|28=>89|24=>107|0=>0|3=>3|37=>113|48=>55|50=>27|4=>4|40=>191|39=>190|45=>196|5=>5|9=>9|51=>284|55=>288|57=>344|58=>345|33=>106|n=>n,fun|n=>n⟩
theorem Tryz.sorted47:Go.Proofs.SlLaysZ.n6 Tryz.prog Tryz.sorted47_ren:={
 mixed:=by kernel_rfl
 f6:=⟨Tryz.f47.name,by decide,Tryz.func47.trans (congrArg some (by kernel_rfl))⟩
 f8:=⟨Tryz.f62.name,by decide,Tryz.func62.trans (congrArg some (by kernel_rfl))⟩
 f11:=⟨Tryz.f79.name,by decide,Tryz.func79.trans (congrArg some (by kernel_rfl))⟩
 t0:=Tryz.underlying0
 a0:=Tryz.isAgg0
 z0:=Tryz.sizeOf0
 v0:=Tryz.zeroValue0
 t24:=Tryz.underlying107
 a24:=Tryz.isAgg107
 z24:=Tryz.sizeOf107
 v24:=Tryz.zeroValue107
 t26:=Tryz.underlying9
 a26:=Tryz.isAgg9
 z26:=Tryz.sizeOf9
 v26:=Tryz.zeroValue9
 t28:=Tryz.underlying89
 a28:=Tryz.isAgg89
 z28:=Tryz.sizeOf89
 v28:=Tryz.zeroValue89
 i26:=by kernel_rfl }
def Tryz.sort63_ren:Go.Shelf.Ren:=⟨fun|6=>63|8=>78|9=>80|19=>119|20=>37|21=>120|22=>121|23=>122|24=>123|25=>124|26=>125|27=>126|28=>127|29=>128|36=>190|31=>185|32=>186|37=>191|38=>192|39=>193|41=>249|n=>n,fun|27=>107|29=>9|3=>3|32=>113|26=>107|0=>0|44=>55|46=>27|4=>4|36=>191|35=>190|41=>196|5=>5|9=>9|53=>284|57=>288|63=>344|64=>345|n=>n,fun|n=>n⟩
theorem Tryz.sort63:Go.Proofs.SlLaysM.n6 Tryz.prog Tryz.sort63_ren:={
 mixed:=by kernel_rfl
 f6:=⟨Tryz.f63.name,by decide,Tryz.func63.trans (congrArg some (by kernel_rfl))⟩
 f8:=Tryz.func78.trans (congrArg some (by kernel_rfl))
 f9:=⟨Tryz.f80.name,by decide,Tryz.func80.trans (congrArg some (by kernel_rfl))⟩
 f19:=Tryz.func119.trans (congrArg some (by kernel_rfl))
 f20:=Tryz.func37.trans (congrArg some (by kernel_rfl))
 f21:=⟨Tryz.f120.name,by decide,Tryz.func120.trans (congrArg some (by kernel_rfl))⟩
 f22:=⟨Tryz.f121.name,by decide,Tryz.func121.trans (congrArg some (by kernel_rfl))⟩
 f23:=⟨Tryz.f122.name,by decide,Tryz.func122.trans (congrArg some (by kernel_rfl))⟩
 f24:=⟨Tryz.f123.name,by decide,Tryz.func123.trans (congrArg some (by kernel_rfl))⟩
 f25:=⟨Tryz.f124.name,by decide,Tryz.func124.trans (congrArg some (by kernel_rfl))⟩
 f26:=⟨Tryz.f125.name,by decide,Tryz.func125.trans (congrArg some (by kernel_rfl))⟩
 f27:=⟨Tryz.f126.name,by decide,Tryz.func126.trans (congrArg some (by kernel_rfl))⟩
 f28:=⟨Tryz.f127.name,by decide,Tryz.func127.trans (congrArg some (by kernel_rfl))⟩
 f29:=⟨Tryz.f128.name,by decide,Tryz.func128.trans (congrArg some (by kernel_rfl))⟩
 f31:=Tryz.func185.trans (congrArg some (by kernel_rfl))
 f32:=Tryz.func186.trans (congrArg some (by kernel_rfl))
 f36:=⟨Tryz.f190.name,by decide,Tryz.func190.trans (congrArg some (by kernel_rfl))⟩
 f37:=⟨Tryz.f191.name,by decide,Tryz.func191.trans (congrArg some (by kernel_rfl))⟩
 f38:=⟨Tryz.f192.name,by decide,Tryz.func192.trans (congrArg some (by kernel_rfl))⟩
 f39:=⟨Tryz.f193.name,by decide,Tryz.func193.trans (congrArg some (by kernel_rfl))⟩
 f41:=⟨Tryz.f249.name,by decide,Tryz.func249.trans (congrArg some (by kernel_rfl))⟩
 t0:=Tryz.underlying0
 a0:=Tryz.isAgg0
 z0:=Tryz.sizeOf0
 v0:=Tryz.zeroValue0
 t3:=Tryz.underlying3
 a3:=Tryz.isAgg3
 z3:=Tryz.sizeOf3
 v3:=Tryz.zeroValue3
 t4:=Tryz.underlying4
 a4:=Tryz.isAgg4
 z4:=Tryz.sizeOf4
 v4:=Tryz.zeroValue4
 t5:=Tryz.underlying5
 a5:=Tryz.isAgg5
 z5:=Tryz.sizeOf5
 v5:=Tryz.zeroValue5
 t9:=Tryz.underlying9
 a9:=Tryz.isAgg9
 z9:=Tryz.sizeOf9
 v9:=Tryz.zeroValue9
 t26:=Tryz.underlying107
 a26:=Tryz.isAgg107
 z26:=Tryz.sizeOf107
 v26:=Tryz.zeroValue107
 t27:=Tryz.underlying107
 a27:=Tryz.isAgg107
 z27:=Tryz.sizeOf107
 v27:=Tryz.zeroValue107
 t29:=Tryz.underlying9
 a29:=Tryz.isAgg9
 z29:=Tryz.sizeOf9
 v29:=Tryz.zeroValue9
 t32:=Tryz.underlying113
 a32:=Tryz.isAgg113
 z32:=Tryz.sizeOf113
 v32:=Tryz.zeroValue113
 t35:=Tryz.underlying190
 a35:=Tryz.isAgg190
 z35:=Tryz.sizeOf190
 v35:=Tryz.zeroValue190
 t36:=Tryz.underlying191
 a36:=Tryz.isAgg191
 z36:=Tryz.sizeOf191
 v36:=Tryz.zeroValue191
 t41:=Tryz.underlying196
 a41:=Tryz.isAgg196
 z41:=Tryz.sizeOf196
 v41:=Tryz.zeroValue196
 t44:=Tryz.underlying55
 a44:=Tryz.isAgg55
 z44:=Tryz.sizeOf55
 v44:=Tryz.zeroValue55
 t46:=Tryz.underlying27
 a46:=Tryz.isAgg27
 z46:=Tryz.sizeOf27
 v46:=Tryz.zeroValue27
 t53:=Tryz.underlying284
 a53:=Tryz.isAgg284
 z53:=Tryz.sizeOf284
 v53:=Tryz.zeroValue284
 t57:=Tryz.underlying288
 a57:=Tryz.isAgg288
 z57:=Tryz.sizeOf288
 v57:=Tryz.zeroValue288
 t63:=Tryz.underlying344
 a63:=Tryz.isAgg344
 z63:=Tryz.sizeOf344
 v63:=Tryz.zeroValue344
 t64:=Tryz.underlying345
 a64:=Tryz.isAgg345
 z64:=Tryz.sizeOf345
 v64:=Tryz.zeroValue345 }
def Tryz.keys354_ren:Go.Shelf.Ren:=⟨fun|7=>354|10=>355|n=>n,fun|23=>172|26=>9|3=>9|28=>89|0=>0|27=>88|33=>106|4=>4|n=>n,fun|n=>n⟩
theorem Tryz.keys354:Go.Proofs.SlLaysZ.n7 Tryz.prog Tryz.keys354_ren:={
 mixed:=by kernel_rfl
 f7:=⟨Tryz.f354.name,by decide,Tryz.func354.trans (congrArg some (by kernel_rfl))⟩
 f10:=⟨Tryz.f355.name,by decide,Tryz.func355.trans (congrArg some (by kernel_rfl))⟩
 t0:=Tryz.underlying0
 a0:=Tryz.isAgg0
 z0:=Tryz.sizeOf0
 v0:=Tryz.zeroValue0
 t4:=Tryz.underlying4
 a4:=Tryz.isAgg4
 z4:=Tryz.sizeOf4
 v4:=Tryz.zeroValue4
 t23:=Tryz.underlying172
 a23:=Tryz.isAgg172
 z23:=Tryz.sizeOf172
 v23:=Tryz.zeroValue172
 t26:=Tryz.underlying9
 a26:=Tryz.isAgg9
 z26:=Tryz.sizeOf9
 v26:=Tryz.zeroValue9
 t27:=Tryz.underlying88
 a27:=Tryz.isAgg88
 z27:=Tryz.sizeOf88
 v27:=Tryz.zeroValue88
 t28:=Tryz.underlying89
 a28:=Tryz.isAgg89
 z28:=Tryz.sizeOf89
 v28:=Tryz.zeroValue89
 t33:=Tryz.underlying106
 a33:=Tryz.isAgg106
 z33:=Tryz.sizeOf106
 v33:=Tryz.zeroValue106 }
end Go.Proofs
