import Derived.Test.YtbkddpckkgbbmaaGreatDoorVoB
import Derived.Test.YtbkddpckkgbbmaaGreatDoorTryzShelf
import Derived.Shelf.Strings.Builder1
namespace Go.Proofs
open Go.Shelf
/-- as the shelf's laying command writes it, for WriteByte. -/
def Tryz.lays167_ren : Go.Shelf.Ren := ⟨fun | 167 => 204 | 240 => 173 | 276 => 205 | n => n, Tryz.lays154_ren.t, fun | n => n⟩
theorem Tryz.lays167 : Go.Proofs.Lays.n167 Tryz.prog Tryz.lays167_ren := {
  mixed := by kernel_rfl
  f167 := Tryz.func204.trans (congrArg some (by kernel_rfl))
  f240 := Tryz.func173.trans (congrArg some (by kernel_rfl))
  f276 := Tryz.func205.trans (congrArg some (by kernel_rfl))
  t0 := Tryz.underlying0
  a0 := Tryz.isAgg0
  z0 := Tryz.sizeOf0
  v0 := Tryz.zeroValue0
  t4 := Tryz.underlying4
  a4 := Tryz.isAgg4
  z4 := Tryz.sizeOf4
  v4 := Tryz.zeroValue4
  t5 := Tryz.underlying5
  a5 := Tryz.isAgg5
  z5 := Tryz.sizeOf5
  v5 := Tryz.zeroValue5
  t9 := Tryz.underlying9
  a9 := Tryz.isAgg9
  z9 := Tryz.sizeOf9
  v9 := Tryz.zeroValue9
  t20 := Tryz.underlying20
  a20 := Tryz.isAgg20
  z20 := Tryz.sizeOf20
  v20 := Tryz.zeroValue20
  t37 := Tryz.underlying110
  a37 := Tryz.isAgg110
  z37 := Tryz.sizeOf110
  v37 := Tryz.zeroValue110
  t70 := Tryz.underlying207
  a70 := Tryz.isAgg207
  z70 := Tryz.sizeOf207
  v70 := Tryz.zeroValue207
  t72 := Tryz.underlying209
  a72 := Tryz.isAgg209
  z72 := Tryz.sizeOf209
  v72 := Tryz.zeroValue209
  t75 := Tryz.underlying212
  a75 := Tryz.isAgg212
  z75 := Tryz.sizeOf212
  v75 := Tryz.zeroValue212
  t164 := Tryz.underlying283
  a164 := Tryz.isAgg283
  z164 := Tryz.sizeOf283
  v164 := Tryz.zeroValue283 }
theorem Tryz.Builder_Extra_167 : Builder.Extra Tryz.prog Tryz.lays167_ren := {
  sizeBuilder := by kernel_rfl
  liesBuilder := by kernel_rfl
  t5 := Tryz.underlying5
  a5 := Tryz.isAgg5
  z5 := Tryz.sizeOf5
  v5 := Tryz.zeroValue5
  infoByte := by kernel_rfl
  cellsByte := by kernel_rfl
  sizeByte := by kernel_rfl
  neB5 := by decide }
end Go.Proofs

namespace Go.Oct
open Go Go.Vc Go.VrA
set_option maxRecDepth 100000

/-! ### strings.Builder -/

def IsB (w : World) (B b : Nat) (l : List UInt8) : Prop := Lib.IsBuilder 209 5 B b (Lib.byteCells l) w

theorem mod_of_below {B : Nat} {w w' : World} (h : Go.RowKit.Below B w w') : Mod (fun k => B ≤ k) w w' :=
  ⟨h.os, h.tape, h.output, h.size, fun k _ hs => h.block k (by omega)⟩

theorem isB_fresh (w : World) (b : Nat) (h : w.heap[b]? = some (.cells #[.pointer none, .slice none 0 0] 209 (0, 0))) : IsB w b b [] :=
  .inl ⟨Nat.le_refl _, _, h, World.ownsRow_nil w b _ 1, by simp [Value.ownBlock]⟩

theorem isB_lt {w : World} {B b : Nat} {l : List UInt8} (h : IsB w B b l) : b < w.heap.size := h.elim (fun x => x.lt) (fun x => x.lt)

theorem wstr_c (B b : Nat) (l : List UInt8) (s : ByteArray) (w : World) (K : Value → World → Prop) (hb : IsB w B b l) (hlen : l.length + s.size ≤ 140737488355328) (hB : B ≤ w.heap.size)
    (h : ∀ w', Mod (fun k => B ≤ k) w w' → IsB w' B b (l ++ s.data.toList) → K (.tuple #[.int .i64 s.size, .nilIface]) w') :
    Ok Proofs.Tryz.prog 115 #[ptr b, .string s] w K := by
  refine ok_of_calls (by kernel_rfl) (Proofs.Any.Builder_WriteString { Proofs.Tryz.lays154 with } Proofs.Tryz.Builder_Extra_154 B b _ s w hb (by rw [Lib.byteCells_length]; exact hlen) hB) ?_
  rintro e w' ⟨rfl, hb', hlo⟩
  refine ⟨_, rfl, h w' (mod_of_below hlo) (.inr ?_)⟩
  rw [Lib.byteCells_append]
  exact hb'

theorem wbyte_c (B b : Nat) (l : List UInt8) (c : UInt8) (w : World) (K : Value → World → Prop) (hb : IsB w B b l) (hlen : l.length + 1 ≤ 140737488355328) (hB : B ≤ w.heap.size)
    (h : ∀ w', Mod (fun k => B ≤ k) w w' → IsB w' B b (l ++ [c]) → K .nilIface w') :
    Ok Proofs.Tryz.prog 204 #[ptr b, .int .u8 (c.toNat : Int)] w K := by
  refine ok_of_calls (by kernel_rfl) (Proofs.Any.Builder_WriteByte Proofs.Tryz.lays167 Proofs.Tryz.Builder_Extra_167 B b _ (c.toNat : Int) w hb (by rw [Lib.byteCells_length]; exact hlen) hB) ?_
  rintro e w' ⟨rfl, hb', hlo⟩
  refine ⟨_, rfl, h w' (mod_of_below hlo) (.inr ?_)⟩
  rw [Lib.byteCells_append]
  exact hb'

theorem bstring_c (B b : Nat) (l : List UInt8) (w : World) (K : Value → World → Prop) (hb : IsB w B b l) (hB : B ≤ w.heap.size)
    (h : ∀ w', Mod (fun k => B ≤ k) w w' → K (.string ⟨l.toArray⟩) w') :
    Ok Proofs.Tryz.prog 117 #[ptr b] w K := by
  refine ok_of_calls (by kernel_rfl) (Proofs.Tryz.Builder_String_any B b l w hb hB) ?_
  rintro e w' ⟨rfl, hlo⟩
  exact ⟨_, rfl, h w' (mod_of_below hlo)⟩

theorem blen_c (B b : Nat) (l : List UInt8) (w : World) (K : Value → World → Prop) (hb : IsB w B b l) (h : K (.int .i64 l.length) w) :
    Ok Proofs.Tryz.prog 116 #[ptr b] w K := by
  refine ok_of_calls (by kernel_rfl) (Proofs.Tryz.Builder_Len B b _ w hb) ?_
  rintro e w' ⟨rfl, rfl⟩
  rw [Lib.byteCells_length]
  exact ⟨_, rfl, h⟩

end Go.Oct
