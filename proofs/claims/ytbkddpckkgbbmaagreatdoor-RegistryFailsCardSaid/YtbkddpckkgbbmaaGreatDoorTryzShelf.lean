import Derived.Shelf.Strings.Builder1
import Derived.Shelf.Strings.Builder2
import Derived.Shelf.Strings.OnBuilder
import Derived.Shelf.Small.Bits
import Derived.Shelf.Strings.BuilderF
import Derived.Shelf.Strings.BuilderK
import Derived.Shelf.Utf8.RuneCount
import Derived.Shelf.Strings.Builder2Cap
import Derived.Shelf.Strconv.Itoa0
import Derived.Shelf.Strconv.Itoa1
import Derived.Shelf.LaysM
import Derived.Shelf.Strings.Search1
import Derived.Shelf.Strings.Search2
import Derived.Shelf.Strings.Search3
import Derived.Shelf.Strings.Count
import Derived.Shelf.Strings.Shaped
import Derived.Shelf.GgClosure.StringsIndexFunc
import Derived.Ground.GgwProg
import Derived.Shelf.GgClosure.StringsIndexFuncTop
import Derived.Shelf.Strings.Split
import Derived.Shelf.Strings.Replace
import Derived.Shelf.Strings.SplitShaped
import Derived.Shelf.Bits.Mul64
import Derived.Shelf.Unicode.DecodeSlow
import Derived.Shelf.Unicode.DecodeAny
import Derived.Shelf.Strings.FuncGrows
import Derived.Shelf.Strings.BuilderCap
import Derived.Shelf.Slices.Equal
import Derived.Ground.SlgmProg
import Derived.Shelf.SortM.Plain
import Derived.Shelf.SortM.SortNone
import Derived.Test.YtbkddpckkgbbmaaGreatDoorProg
set_option linter.unusedSimpArgs false
set_option linter.unusedVariables false
set_option linter.unusedSectionVars false
set_option linter.unnecessarySimpa false
namespace Go.Proofs
open Go.Shelf
def Tryz.lays170_ren : Go.Shelf.Ren:=⟨fun | 170=>116 | n=>n,fun | 70=>207 | 3=>3 | 0=>0 | 72=>209 | 37=>110 | 5=>5 | n=>n,fun | n=>n⟩
theorem Tryz.lays170 : Go.Proofs.Lays.n170 Tryz.prog Tryz.lays170_ren:={
  mixed:=by kernel_rfl
  f170:=Tryz.func116.trans (congrArg some (by kernel_rfl))
  t0:=Tryz.underlying0
  a0:=Tryz.isAgg0
  z0:=Tryz.sizeOf0
  v0:=Tryz.zeroValue0
  t3:=Tryz.underlying3
  a3:=Tryz.isAgg3
  z3:=Tryz.sizeOf3
  v3:=Tryz.zeroValue3
  t37:=Tryz.underlying110
  a37:=Tryz.isAgg110
  z37:=Tryz.sizeOf110
  v37:=Tryz.zeroValue110
  t70:=Tryz.underlying207
  a70:=Tryz.isAgg207
  z70:=Tryz.sizeOf207
  v70:=Tryz.zeroValue207
  t72:=Tryz.underlying209
  a72:=Tryz.isAgg209
  z72:=Tryz.sizeOf209
  v72:=Tryz.zeroValue209 }
open Go.RowKit in
theorem Tryz.Builder_Len (B b : Nat) (bs : List Value) (w : World) (h : Lib.IsBuilder 209 5 B b bs w) :
    Calls Tryz.prog 116 #[.pointer (some ⟨b,0,none⟩)] w fun e w'=>e = .returned (.int .i64 bs.length)∧w' = w:=Any.Builder_Len Tryz.lays170 B b bs w h
def Tryz.lays169_ren : Go.Shelf.Ren:=⟨fun | 169=>117 | n=>n,fun | 70=>207 | 9=>9 | 0=>0 | 72=>209 | 37=>110 | 127=>264 | 3=>3 | 5=>5 | n=>n,fun | n=>n⟩
theorem Tryz.lays169 : Go.Proofs.Lays.n169 Tryz.prog Tryz.lays169_ren:={
  mixed:=by kernel_rfl
  f169:=Tryz.func117.trans (congrArg some (by kernel_rfl))
  t0:=Tryz.underlying0
  a0:=Tryz.isAgg0
  z0:=Tryz.sizeOf0
  v0:=Tryz.zeroValue0
  t3:=Tryz.underlying3
  a3:=Tryz.isAgg3
  z3:=Tryz.sizeOf3
  v3:=Tryz.zeroValue3
  t9:=Tryz.underlying9
  a9:=Tryz.isAgg9
  z9:=Tryz.sizeOf9
  v9:=Tryz.zeroValue9
  t37:=Tryz.underlying110
  a37:=Tryz.isAgg110
  z37:=Tryz.sizeOf110
  v37:=Tryz.zeroValue110
  t70:=Tryz.underlying207
  a70:=Tryz.isAgg207
  z70:=Tryz.sizeOf207
  v70:=Tryz.zeroValue207
  t72:=Tryz.underlying209
  a72:=Tryz.isAgg209
  z72:=Tryz.sizeOf209
  v72:=Tryz.zeroValue209
  t127:=Tryz.underlying264
  a127:=Tryz.isAgg264
  z127:=Tryz.sizeOf264
  v127:=Tryz.zeroValue264 }
theorem Tryz.Builder_Extra_169 : Builder.Extra Tryz.prog Tryz.lays169_ren:={
  sizeBuilder:=by kernel_rfl
  liesBuilder:=by kernel_rfl
  t5:=Tryz.underlying5
  a5:=Tryz.isAgg5
  z5:=Tryz.sizeOf5
  v5:=Tryz.zeroValue5
  infoByte:=by kernel_rfl
  cellsByte:=by kernel_rfl
  sizeByte:=by kernel_rfl
  neB5:=by decide }
open Go.RowKit in
theorem Tryz.Builder_String_any (B b : Nat) (l : List UInt8) (w : World) (h : Lib.IsBuilder 209 5 B b (Lib.byteCells l) w) (hBw : B≤w.heap.size) :
    Calls Tryz.prog 117 #[.pointer (some ⟨b,0,none⟩)] w fun e w'=>e = .returned (.string ⟨l.toArray⟩)∧Below B w w':=Any.Builder_String_any Tryz.lays169 Tryz.Builder_Extra_169 B b l w h hBw
def Tryz.lays143_ren : Go.Shelf.Ren:=⟨fun | 143=>249 | 219=>259 | 217=>263 | 225=>264 | 224=>265 | 267=>266 | 266=>267 | 314=>268 | n=>n,fun | 9=>9 | 3=>3 | 4=>4 | 5=>5 | 46=>203 | 146=>260 | 51=>30 | n=>n,fun | 1=>0 | n=>n⟩
theorem Tryz.lays143 : Go.Proofs.Lays.n143 Tryz.prog Tryz.lays143_ren:={
  mixed:=by kernel_rfl
  f143:=Tryz.func249.trans (congrArg some (by kernel_rfl))
  f217:=Tryz.func263.trans (congrArg some (by kernel_rfl))
  f219:=Tryz.func259.trans (congrArg some (by kernel_rfl))
  f224:=Tryz.func265.trans (congrArg some (by kernel_rfl))
  f225:=Tryz.func264.trans (congrArg some (by kernel_rfl))
  f266:=Tryz.func267.trans (congrArg some (by kernel_rfl))
  f267:=Tryz.func266.trans (congrArg some (by kernel_rfl))
  f314:=Tryz.func268.trans (congrArg some (by kernel_rfl))
  t3:=Tryz.underlying3
  a3:=Tryz.isAgg3
  z3:=Tryz.sizeOf3
  v3:=Tryz.zeroValue3
  t4:=Tryz.underlying4
  a4:=Tryz.isAgg4
  z4:=Tryz.sizeOf4
  v4:=Tryz.zeroValue4
  t5:=Tryz.underlying5
  a5:=Tryz.isAgg5
  z5:=Tryz.sizeOf5
  v5:=Tryz.zeroValue5
  t9:=Tryz.underlying9
  a9:=Tryz.isAgg9
  z9:=Tryz.sizeOf9
  v9:=Tryz.zeroValue9
  t46:=Tryz.underlying203
  a46:=Tryz.isAgg203
  z46:=Tryz.sizeOf203
  v46:=Tryz.zeroValue203
  t51:=Tryz.underlying30
  a51:=Tryz.isAgg30
  z51:=Tryz.sizeOf30
  v51:=Tryz.zeroValue30
  t146:=Tryz.underlying260
  a146:=Tryz.isAgg260
  z146:=Tryz.sizeOf260
  v146:=Tryz.zeroValue260
  g1:=by kernel_rfl }
open Go.RowKit Go.Lib in
theorem Tryz.strings_Index_one (s : ByteArray) (c : UInt8) (w : World) :
    Calls Tryz.prog 249 #[.string s,.string ⟨#[c]⟩] w fun e w'=>e = .returned (.int .i64 (Lib.indexByte s.data.toList c))∧w' = w:=Any.strings_Index_one Tryz.lays143 s c w
def Tryz.laysGw17_ren : Go.Shelf.Ren:=⟨fun | 17=>132 | 15=>187 | 20=>214 | n=>n,fun | 9=>9 | 23=>229 | 4=>4 | 3=>3 | 0=>0 | 21=>21 | n=>n,fun | n=>n⟩
theorem Tryz.laysGw17 : Go.Proofs.LaysGw.n17 Tryz.prog Tryz.laysGw17_ren:={
  mixed:=by kernel_rfl
  f15:=Tryz.func187.trans (congrArg some (by kernel_rfl))
  f17:=Tryz.func132.trans (congrArg some (by kernel_rfl))
  f20:=Tryz.func214.trans (congrArg some (by kernel_rfl))
  t0:=Tryz.underlying0
  a0:=Tryz.isAgg0
  z0:=Tryz.sizeOf0
  v0:=Tryz.zeroValue0
  i0:=by kernel_rfl
  t3:=Tryz.underlying3
  a3:=Tryz.isAgg3
  z3:=Tryz.sizeOf3
  v3:=Tryz.zeroValue3
  i3:=by kernel_rfl
  t4:=Tryz.underlying4
  a4:=Tryz.isAgg4
  z4:=Tryz.sizeOf4
  v4:=Tryz.zeroValue4
  i4:=by kernel_rfl
  t9:=Tryz.underlying9
  a9:=Tryz.isAgg9
  z9:=Tryz.sizeOf9
  v9:=Tryz.zeroValue9
  i9:=by kernel_rfl
  t21:=Tryz.underlying21
  a21:=Tryz.isAgg21
  z21:=Tryz.sizeOf21
  v21:=Tryz.zeroValue21
  i21:=by kernel_rfl
  t23:=Tryz.underlying229
  a23:=Tryz.isAgg229
  z23:=Tryz.sizeOf229
  v23:=Tryz.zeroValue229
  i23:=by kernel_rfl }
open Go.RowKit Go.Lib in
theorem Tryz.strings_ContainsFunc (g : Nat) (lb : Array Value) (eg : ∀ args w,(callFunc g args).run Tryz.prog w = .ok (.enter g args) w) (p : Nat→Bool) (s : ByteArray) (w : World) (hp : PredAt Tryz.prog g lb encR p w) :
    Calls Tryz.prog 132 #[.string s,.func (.func g) #[] lb] w fun e w'=>e = .returned (.bool (decide (0≤Lib.idxFunc p true s)))∧Below w.heap.size w w':=Any.strings_ContainsFunc Tryz.laysGw17 g lb eg p s w hp
def Tryz.lays154_ren : Go.Shelf.Ren:=⟨fun | 154=>235 | 138=>248 | 165=>114 | 143=>249 | 166=>115 | 197=>250 | 169=>117 | 195=>257 | 218=>258 | 240=>173 | 241=>174 | 219=>259 | 260=>260 | 276=>205 | 277=>206 | 217=>263 | 225=>264 | 224=>265 | 267=>266 | 266=>267 | 314=>268 | n=>n,fun | 9=>9 | 3=>3 | 4=>4 | 72=>209 | 0=>0 | 76=>213 | 105=>312 | 21=>21 | 5=>5 | 70=>207 | 20=>20 | 37=>110 | 75=>212 | 127=>264 | 164=>283 | 46=>203 | 119=>323 | 139=>326 | 138=>325 | 146=>260 | 51=>30 | 80=>216 | n=>n,fun | 1=>0 | 3=>2 | 4=>3 | n=>n⟩
theorem Tryz.lays154 : Go.Proofs.Lays.n154 Tryz.prog Tryz.lays154_ren:={
  mixed:=by kernel_rfl
  f138:=Tryz.func248.trans (congrArg some (by kernel_rfl))
  f143:=Tryz.func249.trans (congrArg some (by kernel_rfl))
  f154:=Tryz.func235.trans (congrArg some (by kernel_rfl))
  f165:=Tryz.func114.trans (congrArg some (by kernel_rfl))
  f166:=Tryz.func115.trans (congrArg some (by kernel_rfl))
  f169:=Tryz.func117.trans (congrArg some (by kernel_rfl))
  f195:=Tryz.func257.trans (congrArg some (by kernel_rfl))
  f197:=Tryz.func250.trans (congrArg some (by kernel_rfl))
  f217:=Tryz.func263.trans (congrArg some (by kernel_rfl))
  f218:=Tryz.func258.trans (congrArg some (by kernel_rfl))
  f219:=Tryz.func259.trans (congrArg some (by kernel_rfl))
  f224:=Tryz.func265.trans (congrArg some (by kernel_rfl))
  f225:=Tryz.func264.trans (congrArg some (by kernel_rfl))
  f240:=Tryz.func173.trans (congrArg some (by kernel_rfl))
  f241:=Tryz.func174.trans (congrArg some (by kernel_rfl))
  f260:=Tryz.func260.trans (congrArg some (by kernel_rfl))
  f266:=Tryz.func267.trans (congrArg some (by kernel_rfl))
  f267:=Tryz.func266.trans (congrArg some (by kernel_rfl))
  f276:=Tryz.func205.trans (congrArg some (by kernel_rfl))
  f277:=Tryz.func206.trans (congrArg some (by kernel_rfl))
  f314:=Tryz.func268.trans (congrArg some (by kernel_rfl))
  t0:=Tryz.underlying0
  a0:=Tryz.isAgg0
  z0:=Tryz.sizeOf0
  v0:=Tryz.zeroValue0
  t3:=Tryz.underlying3
  a3:=Tryz.isAgg3
  z3:=Tryz.sizeOf3
  v3:=Tryz.zeroValue3
  t4:=Tryz.underlying4
  a4:=Tryz.isAgg4
  z4:=Tryz.sizeOf4
  v4:=Tryz.zeroValue4
  t5:=Tryz.underlying5
  a5:=Tryz.isAgg5
  z5:=Tryz.sizeOf5
  v5:=Tryz.zeroValue5
  t9:=Tryz.underlying9
  a9:=Tryz.isAgg9
  z9:=Tryz.sizeOf9
  v9:=Tryz.zeroValue9
  t20:=Tryz.underlying20
  a20:=Tryz.isAgg20
  z20:=Tryz.sizeOf20
  v20:=Tryz.zeroValue20
  t21:=Tryz.underlying21
  a21:=Tryz.isAgg21
  z21:=Tryz.sizeOf21
  v21:=Tryz.zeroValue21
  t37:=Tryz.underlying110
  a37:=Tryz.isAgg110
  z37:=Tryz.sizeOf110
  v37:=Tryz.zeroValue110
  t46:=Tryz.underlying203
  a46:=Tryz.isAgg203
  z46:=Tryz.sizeOf203
  v46:=Tryz.zeroValue203
  t51:=Tryz.underlying30
  a51:=Tryz.isAgg30
  z51:=Tryz.sizeOf30
  v51:=Tryz.zeroValue30
  t70:=Tryz.underlying207
  a70:=Tryz.isAgg207
  z70:=Tryz.sizeOf207
  v70:=Tryz.zeroValue207
  t72:=Tryz.underlying209
  a72:=Tryz.isAgg209
  z72:=Tryz.sizeOf209
  v72:=Tryz.zeroValue209
  t75:=Tryz.underlying212
  a75:=Tryz.isAgg212
  z75:=Tryz.sizeOf212
  v75:=Tryz.zeroValue212
  t76:=Tryz.underlying213
  a76:=Tryz.isAgg213
  z76:=Tryz.sizeOf213
  v76:=Tryz.zeroValue213
  t105:=Tryz.underlying312
  a105:=Tryz.isAgg312
  z105:=Tryz.sizeOf312
  v105:=Tryz.zeroValue312
  t119:=Tryz.underlying323
  a119:=Tryz.isAgg323
  z119:=Tryz.sizeOf323
  t127:=Tryz.underlying264
  a127:=Tryz.isAgg264
  z127:=Tryz.sizeOf264
  v127:=Tryz.zeroValue264
  t138:=Tryz.underlying325
  a138:=Tryz.isAgg325
  z138:=Tryz.sizeOf325
  v138:=Tryz.zeroValue325
  t139:=Tryz.underlying326
  a139:=Tryz.isAgg326
  z139:=Tryz.sizeOf326
  v139:=Tryz.zeroValue326
  t146:=Tryz.underlying260
  a146:=Tryz.isAgg260
  z146:=Tryz.sizeOf260
  v146:=Tryz.zeroValue260
  t164:=Tryz.underlying283
  a164:=Tryz.isAgg283
  z164:=Tryz.sizeOf283
  v164:=Tryz.zeroValue283
  g1:=by kernel_rfl
  g3:=by kernel_rfl
  g4:=by kernel_rfl }
theorem Tryz.Builder_Extra_154 : Builder.Extra Tryz.prog Tryz.lays154_ren:={
  sizeBuilder:=by kernel_rfl
  liesBuilder:=by kernel_rfl
  t5:=Tryz.underlying5
  a5:=Tryz.isAgg5
  z5:=Tryz.sizeOf5
  v5:=Tryz.zeroValue5
  infoByte:=by kernel_rfl
  cellsByte:=by kernel_rfl
  sizeByte:=by kernel_rfl
  neB5:=by decide }
def Tryz.lays155_ren : Go.Shelf.Ren:=⟨fun | 155=>213 | 154=>235 | 138=>248 | 165=>114 | 143=>249 | 166=>115 | 197=>250 | 169=>117 | 195=>257 | 218=>258 | 240=>173 | 241=>174 | 219=>259 | 260=>260 | 276=>205 | 277=>206 | 217=>263 | 225=>264 | 224=>265 | 267=>266 | 266=>267 | 314=>268 | n=>n,fun | 9=>9 | 3=>3 | 4=>4 | 72=>209 | 0=>0 | 76=>213 | 105=>312 | 21=>21 | 5=>5 | 70=>207 | 20=>20 | 37=>110 | 75=>212 | 127=>264 | 164=>283 | 46=>203 | 119=>323 | 139=>326 | 138=>325 | 146=>260 | 51=>30 | 80=>216 | n=>n,fun | 1=>0 | 3=>2 | 4=>3 | n=>n⟩
theorem Tryz.lays155 : Go.Proofs.Lays.n155 Tryz.prog Tryz.lays155_ren:={
  mixed:=by kernel_rfl
  f138:=Tryz.func248.trans (congrArg some (by kernel_rfl))
  f143:=Tryz.func249.trans (congrArg some (by kernel_rfl))
  f154:=Tryz.func235.trans (congrArg some (by kernel_rfl))
  f155:=Tryz.func213.trans (congrArg some (by kernel_rfl))
  f165:=Tryz.func114.trans (congrArg some (by kernel_rfl))
  f166:=Tryz.func115.trans (congrArg some (by kernel_rfl))
  f169:=Tryz.func117.trans (congrArg some (by kernel_rfl))
  f195:=Tryz.func257.trans (congrArg some (by kernel_rfl))
  f197:=Tryz.func250.trans (congrArg some (by kernel_rfl))
  f217:=Tryz.func263.trans (congrArg some (by kernel_rfl))
  f218:=Tryz.func258.trans (congrArg some (by kernel_rfl))
  f219:=Tryz.func259.trans (congrArg some (by kernel_rfl))
  f224:=Tryz.func265.trans (congrArg some (by kernel_rfl))
  f225:=Tryz.func264.trans (congrArg some (by kernel_rfl))
  f240:=Tryz.func173.trans (congrArg some (by kernel_rfl))
  f241:=Tryz.func174.trans (congrArg some (by kernel_rfl))
  f260:=Tryz.func260.trans (congrArg some (by kernel_rfl))
  f266:=Tryz.func267.trans (congrArg some (by kernel_rfl))
  f267:=Tryz.func266.trans (congrArg some (by kernel_rfl))
  f276:=Tryz.func205.trans (congrArg some (by kernel_rfl))
  f277:=Tryz.func206.trans (congrArg some (by kernel_rfl))
  f314:=Tryz.func268.trans (congrArg some (by kernel_rfl))
  t0:=Tryz.underlying0
  a0:=Tryz.isAgg0
  z0:=Tryz.sizeOf0
  v0:=Tryz.zeroValue0
  t3:=Tryz.underlying3
  a3:=Tryz.isAgg3
  z3:=Tryz.sizeOf3
  v3:=Tryz.zeroValue3
  t4:=Tryz.underlying4
  a4:=Tryz.isAgg4
  z4:=Tryz.sizeOf4
  v4:=Tryz.zeroValue4
  t5:=Tryz.underlying5
  a5:=Tryz.isAgg5
  z5:=Tryz.sizeOf5
  v5:=Tryz.zeroValue5
  t9:=Tryz.underlying9
  a9:=Tryz.isAgg9
  z9:=Tryz.sizeOf9
  v9:=Tryz.zeroValue9
  t20:=Tryz.underlying20
  a20:=Tryz.isAgg20
  z20:=Tryz.sizeOf20
  v20:=Tryz.zeroValue20
  t21:=Tryz.underlying21
  a21:=Tryz.isAgg21
  z21:=Tryz.sizeOf21
  v21:=Tryz.zeroValue21
  t37:=Tryz.underlying110
  a37:=Tryz.isAgg110
  z37:=Tryz.sizeOf110
  v37:=Tryz.zeroValue110
  t46:=Tryz.underlying203
  a46:=Tryz.isAgg203
  z46:=Tryz.sizeOf203
  v46:=Tryz.zeroValue203
  t51:=Tryz.underlying30
  a51:=Tryz.isAgg30
  z51:=Tryz.sizeOf30
  v51:=Tryz.zeroValue30
  t70:=Tryz.underlying207
  a70:=Tryz.isAgg207
  z70:=Tryz.sizeOf207
  v70:=Tryz.zeroValue207
  t72:=Tryz.underlying209
  a72:=Tryz.isAgg209
  z72:=Tryz.sizeOf209
  v72:=Tryz.zeroValue209
  t75:=Tryz.underlying212
  a75:=Tryz.isAgg212
  z75:=Tryz.sizeOf212
  v75:=Tryz.zeroValue212
  t76:=Tryz.underlying213
  a76:=Tryz.isAgg213
  z76:=Tryz.sizeOf213
  v76:=Tryz.zeroValue213
  t105:=Tryz.underlying312
  a105:=Tryz.isAgg312
  z105:=Tryz.sizeOf312
  v105:=Tryz.zeroValue312
  t119:=Tryz.underlying323
  a119:=Tryz.isAgg323
  z119:=Tryz.sizeOf323
  t127:=Tryz.underlying264
  a127:=Tryz.isAgg264
  z127:=Tryz.sizeOf264
  v127:=Tryz.zeroValue264
  t138:=Tryz.underlying325
  a138:=Tryz.isAgg325
  z138:=Tryz.sizeOf325
  v138:=Tryz.zeroValue325
  t139:=Tryz.underlying326
  a139:=Tryz.isAgg326
  z139:=Tryz.sizeOf326
  v139:=Tryz.zeroValue326
  t146:=Tryz.underlying260
  a146:=Tryz.isAgg260
  z146:=Tryz.sizeOf260
  v146:=Tryz.zeroValue260
  t164:=Tryz.underlying283
  a164:=Tryz.isAgg283
  z164:=Tryz.sizeOf283
  v164:=Tryz.zeroValue283
  g1:=by kernel_rfl
  g3:=by kernel_rfl
  g4:=by kernel_rfl }
theorem Tryz.Builder_Extra_155 : Builder.Extra Tryz.prog Tryz.lays155_ren:={
  sizeBuilder:=by kernel_rfl
  liesBuilder:=by kernel_rfl
  t5:=Tryz.underlying5
  a5:=Tryz.isAgg5
  z5:=Tryz.sizeOf5
  v5:=Tryz.zeroValue5
  infoByte:=by kernel_rfl
  cellsByte:=by kernel_rfl
  sizeByte:=by kernel_rfl
  neB5:=by decide }
open Go.RowKit Go.Lib in
theorem Tryz.strings_ReplaceAll (s old new : ByteArray) (m : Int) (w : World) (hs : s.size < 4294967281) (hm : w.cell? ⟨0,0,none⟩ = some (.int .i64 m)) (h1 : 1≤old.size) (hlen : s.size + Lib.countB s old * new.size≤140737488355328) :
    Calls Tryz.prog 213 #[.string s,.string old,.string new] w fun e w' =>
      e = .returned (.string ⟨(Lib.replaceAll s.data.toList old.data.toList new.data.toList).toArray⟩)∧Below w.heap.size w w':=Any.strings_ReplaceAll Tryz.lays155 Tryz.Builder_Extra_155 s old new m w hs hm h1 hlen
def Tryz.laysSlM6_f151_ren : Go.Shelf.Ren:=⟨fun | 6=>151 | 8=>196 | 9=>195 | 19=>228 | 20=>229 | 21=>219 | 22=>220 | 23=>221 | 24=>222 | 25=>223 | 26=>224 | 27=>225 | 28=>226 | 29=>227 | 36=>237 | 31=>238 | 32=>239 | 37=>240 | 38=>241 | 39=>242 | 41=>252 | n=>n,fun | 27=>80 | 29=>9 | 3=>3 | 32=>203 | 26=>80 | 0=>0 | 44=>30 | 46=>31 | 4=>4 | 36=>293 | 35=>292 | 41=>250 | 5=>5 | 9=>9 | 53=>303 | 57=>75 | 63=>314 | 64=>315 | n=>n,fun | n=>n⟩
theorem Tryz.laysSlM6_f151 : Go.Proofs.SlLaysM.n6 Tryz.prog Tryz.laysSlM6_f151_ren:={
  mixed:=by kernel_rfl
  f6:=⟨Tryz.f151.name,by decide,Tryz.func151.trans (congrArg some (by kernel_rfl))⟩
  f8:=Tryz.func196.trans (congrArg some (by kernel_rfl))
  f9:=⟨Tryz.f195.name,by decide,Tryz.func195.trans (congrArg some (by kernel_rfl))⟩
  f19:=Tryz.func228.trans (congrArg some (by kernel_rfl))
  f20:=Tryz.func229.trans (congrArg some (by kernel_rfl))
  f21:=⟨Tryz.f219.name,by decide,Tryz.func219.trans (congrArg some (by kernel_rfl))⟩
  f22:=⟨Tryz.f220.name,by decide,Tryz.func220.trans (congrArg some (by kernel_rfl))⟩
  f23:=⟨Tryz.f221.name,by decide,Tryz.func221.trans (congrArg some (by kernel_rfl))⟩
  f24:=⟨Tryz.f222.name,by decide,Tryz.func222.trans (congrArg some (by kernel_rfl))⟩
  f25:=⟨Tryz.f223.name,by decide,Tryz.func223.trans (congrArg some (by kernel_rfl))⟩
  f26:=⟨Tryz.f224.name,by decide,Tryz.func224.trans (congrArg some (by kernel_rfl))⟩
  f27:=⟨Tryz.f225.name,by decide,Tryz.func225.trans (congrArg some (by kernel_rfl))⟩
  f28:=⟨Tryz.f226.name,by decide,Tryz.func226.trans (congrArg some (by kernel_rfl))⟩
  f29:=⟨Tryz.f227.name,by decide,Tryz.func227.trans (congrArg some (by kernel_rfl))⟩
  f31:=Tryz.func238.trans (congrArg some (by kernel_rfl))
  f32:=Tryz.func239.trans (congrArg some (by kernel_rfl))
  f36:=⟨Tryz.f237.name,by decide,Tryz.func237.trans (congrArg some (by kernel_rfl))⟩
  f37:=⟨Tryz.f240.name,by decide,Tryz.func240.trans (congrArg some (by kernel_rfl))⟩
  f38:=⟨Tryz.f241.name,by decide,Tryz.func241.trans (congrArg some (by kernel_rfl))⟩
  f39:=⟨Tryz.f242.name,by decide,Tryz.func242.trans (congrArg some (by kernel_rfl))⟩
  f41:=⟨Tryz.f252.name,by decide,Tryz.func252.trans (congrArg some (by kernel_rfl))⟩
  t0:=Tryz.underlying0
  a0:=Tryz.isAgg0
  z0:=Tryz.sizeOf0
  v0:=Tryz.zeroValue0
  t3:=Tryz.underlying3
  a3:=Tryz.isAgg3
  z3:=Tryz.sizeOf3
  v3:=Tryz.zeroValue3
  t4:=Tryz.underlying4
  a4:=Tryz.isAgg4
  z4:=Tryz.sizeOf4
  v4:=Tryz.zeroValue4
  t5:=Tryz.underlying5
  a5:=Tryz.isAgg5
  z5:=Tryz.sizeOf5
  v5:=Tryz.zeroValue5
  t9:=Tryz.underlying9
  a9:=Tryz.isAgg9
  z9:=Tryz.sizeOf9
  v9:=Tryz.zeroValue9
  t26:=Tryz.underlying80
  a26:=Tryz.isAgg80
  z26:=Tryz.sizeOf80
  v26:=Tryz.zeroValue80
  t27:=Tryz.underlying80
  a27:=Tryz.isAgg80
  z27:=Tryz.sizeOf80
  v27:=Tryz.zeroValue80
  t29:=Tryz.underlying9
  a29:=Tryz.isAgg9
  z29:=Tryz.sizeOf9
  v29:=Tryz.zeroValue9
  t32:=Tryz.underlying203
  a32:=Tryz.isAgg203
  z32:=Tryz.sizeOf203
  v32:=Tryz.zeroValue203
  t35:=Tryz.underlying292
  a35:=Tryz.isAgg292
  z35:=Tryz.sizeOf292
  v35:=Tryz.zeroValue292
  t36:=Tryz.underlying293
  a36:=Tryz.isAgg293
  z36:=Tryz.sizeOf293
  v36:=Tryz.zeroValue293
  t41:=Tryz.underlying250
  a41:=Tryz.isAgg250
  z41:=Tryz.sizeOf250
  v41:=Tryz.zeroValue250
  t44:=Tryz.underlying30
  a44:=Tryz.isAgg30
  z44:=Tryz.sizeOf30
  v44:=Tryz.zeroValue30
  t46:=Tryz.underlying31
  a46:=Tryz.isAgg31
  z46:=Tryz.sizeOf31
  v46:=Tryz.zeroValue31
  t53:=Tryz.underlying303
  a53:=Tryz.isAgg303
  z53:=Tryz.sizeOf303
  v53:=Tryz.zeroValue303
  t57:=Tryz.underlying75
  a57:=Tryz.isAgg75
  z57:=Tryz.sizeOf75
  v57:=Tryz.zeroValue75
  t63:=Tryz.underlying314
  a63:=Tryz.isAgg314
  z63:=Tryz.sizeOf314
  v63:=Tryz.zeroValue314
  t64:=Tryz.underlying315
  a64:=Tryz.isAgg315
  z64:=Tryz.sizeOf315
  v64:=Tryz.zeroValue315 }
open Go.Sort Go.RowKit in
theorem Tryz.slices_Sort_string (blk off cap : Nat) (ss : List (List UInt8)) (w : World) (hH : Holds encStr w blk off ss.toArray) (hblk : blk < w.heap.size) (hsz : ss.length < 4611686018427387904) :
    Calls Tryz.prog 151 #[.slice (some ⟨blk,off,none⟩) ss.length cap] w fun e w' =>
      e = .returned (.tuple #[])∧∃ n os,w' = grow (putRow encStr (Sort.ahead w n) blk off (ss.mergeSort fun x y=>decide (x≤y)).toArray) os:=AnyM.slices_Sort_string Tryz.laysSlM6_f151 blk off cap ss w hH hblk hsz
open Go.RowKit Go.Sort in
theorem Tryz.slices_Sort_string_none (p : Option Addr) (cap : Nat) (w : World) :
    Calls Tryz.prog 151 #[.slice p 0 cap] w fun e w'=>e = .returned (.tuple #[])∧w' = w:=AnyM.slices_Sort_string_none Tryz.laysSlM6_f151 p cap w
end Go.Proofs
