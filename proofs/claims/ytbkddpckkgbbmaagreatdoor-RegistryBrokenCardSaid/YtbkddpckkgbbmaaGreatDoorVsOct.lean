import Derived.Test.YtbkddpckkgbbmaaGreatDoorVcO
namespace Go.Oct
open Go Go.Vc

/-! ### the readers and writers of bytes, in plain Lean -/

abbrev Rd := ByteArray × Int
def e0 : ByteArray := ⟨#[]⟩
def take (r : Rd) (n : Int) : ByteArray × Rd :=
  if r.2 ≠ 0 then (e0, r) else if n < 0 ∨ n > r.1.size then (e0, (r.1, 3)) else (r.1.extract 0 n.toNat, (r.1.extract n.toNat r.1.size, r.2))
def numL (l : List UInt8) : Nat := l.foldl (fun a c => (a * 256 + c.toNat) % 2 ^ 64) 0
def num (t : ByteArray) : Nat := numL t.data.toList
def number (r : Rd) (n : Int) : Nat × Rd := (num (take r n).1, (take r n).2)
def fail (r : Rd) (e : Int) : Rd := if r.2 = 0 then (r.1, e) else r
def text (r : Rd) (most : Int) : ByteArray × Rd :=
  let a := number r 4
  let n := a.1 % 2 ^ 32
  if n > (max most 0).toNat then (e0, fail a.2 5) else take a.2 n
def ende (r : Rd) : Int := if r.2 ≠ 0 then r.2 else if r.1.size > 0 then 4 else 0
def big (n : Nat) (k : Nat) : ByteArray := ⟨((List.range k).map fun i => UInt8.ofNat (n / 2 ^ (8 * (k - 1 - i)))).toArray⟩
def textB (s : ByteArray) : ByteArray := big (s.size % 2 ^ 32) 4 ++ s

theorem numL_lt (l : List UInt8) : numL l < 2 ^ 64 := by
  unfold numL
  suffices h : ∀ (l : List UInt8) (a : Nat), a < 2 ^ 64 → l.foldl (fun a c => (a * 256 + c.toNat) % 2 ^ 64) a < 2 ^ 64 from h _ 0 (by decide)
  intro l
  induction l with
  | nil => intro a h; exact h
  | cons c l ih => intro a _; exact ih _ (Nat.mod_lt _ (by decide))
theorem num_lt (t : ByteArray) : num t < 2 ^ 64 := numL_lt _
theorem numL_snoc (l : List UInt8) (c : UInt8) : numL (l ++ [c]) = (numL l * 256 + c.toNat) % 2 ^ 64 := by simp [numL]
theorem numL_nil : numL [] = 0 := rfl
theorem take_snoc (t : ByteArray) (i : Nat) (c : UInt8) (h : t.data[i]? = some c) : t.data.toList.take (i + 1) = t.data.toList.take i ++ [c] := by
  rw [List.take_add_one]; simp [h]

theorem wrap_u64 (n : Nat) (h : n < 2 ^ 64) : IntKind.u64.wrap (n : Int) = n := by
  rw [IntKind.wrap_u64]; omega

theorem or_low (a c : Nat) (hc : c < 256) : (a * 256) ||| c = a * 256 + c := by
  have h := Nat.shiftLeft_add_eq_or_of_lt (a := a) (b := c) (i := 8) (by omega)
  rw [Nat.shiftLeft_eq] at h
  exact h.symm

/-- one byte more. -/
theorem step_or (a c : Nat) (ha : a < 2 ^ 64) (hc : c < 256) :
    IntKind.u64.wrap ((BitVec.ofInt IntKind.u64.bits (IntKind.u64.wrap ((a : Int) * 2 ^ (min 8 IntKind.u64.bits))) ||| BitVec.ofInt IntKind.u64.bits (IntKind.u64.wrap (c : Int))).toNat : Int) = (((a * 256 + c) % 2 ^ 64 : Nat) : Int) := by
  have e1 : IntKind.u64.wrap ((a : Int) * 2 ^ (min 8 IntKind.u64.bits)) = ((a % 2 ^ 56 * 256 : Nat) : Int) := by
    rw [IntKind.wrap_u64]
    have : (2 : Int) ^ (min 8 IntKind.u64.bits) = 256 := by decide
    rw [this]; omega
  have e2 : IntKind.u64.wrap (c : Int) = (c : Int) := by rw [IntKind.wrap_u64]; omega
  rw [e1, e2, BitVec.ofInt_natCast, BitVec.ofInt_natCast, BitVec.toNat_or, BitVec.toNat_ofNat, BitVec.toNat_ofNat]
  have h1 : (a % 2 ^ 56 * 256) % 2 ^ IntKind.u64.bits = a % 2 ^ 56 * 256 := by
    have : (2 : Nat) ^ IntKind.u64.bits = 2 ^ 64 := rfl
    rw [this]; omega
  have h2 : c % 2 ^ IntKind.u64.bits = c := by
    have : (2 : Nat) ^ IntKind.u64.bits = 2 ^ 64 := rfl
    rw [this]; omega
  rw [h1, h2, or_low _ _ hc, IntKind.wrap_u64]
  omega

theorem wrap_i64 (n : Int) (h : -(2 ^ 63) ≤ n ∧ n < 2 ^ 63) : IntKind.i64.wrap n = n := by
  rw [IntKind.wrap_i64]; omega

end Go.Oct
