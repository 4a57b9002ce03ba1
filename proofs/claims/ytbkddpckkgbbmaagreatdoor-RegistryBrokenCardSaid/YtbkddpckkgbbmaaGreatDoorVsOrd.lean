import Derived.Test.YtbkddpckkgbbmaaGreatDoorVsOct
import Derived.Lib.Replace
import Derived.Lib.SplitLaws
namespace Go.Oct
open Go

/-! ### keys in order, in plain Lean -/

def esc (l : List UInt8) : List UInt8 := l.flatMap fun c => if c = 0 then [0, 255] else [c]

theorem index_zero_cons (b : UInt8) (l : List UInt8) : Lib.index (b :: l) [0] = if b = 0 then 0 else if Lib.index l [0] == -1 then -1 else Lib.index l [0] + 1 := by
  rw [Lib.index]
  by_cases h : b = 0
  · subst h; simp
  · have : ([0] : List UInt8).isPrefixOf (b :: l) = false := by
      simp [List.isPrefixOf]; exact fun e => h e.symm
    rw [this]; simp [h]

theorem repl_esc : ∀ s : List UInt8, Lib.replaceK [0] [0, 255] (Lib.count s [0]) s = esc s := by
  intro s
  induction s with
  | nil => rfl
  | cons c l ih =>
    by_cases h : c = 0
    · subst h
      rw [Lib.count_cons_eq, Nat.add_comm, Lib.replaceK_hit _ _ _ _ 0 (by rw [index_zero_cons]; simp)]
      simp [esc, ih]
    · rw [Lib.count_cons_ne _ _ _ h]
      have e : esc (c :: l) = c :: esc l := by simp [esc, h]
      rw [e, ← ih]
      generalize hk : Lib.count l [0] = k
      cases k with
      | zero => rfl
      | succ k =>
        obtain ⟨i, hi⟩ := Lib.index_of_count (s := l) (old := [0]) (by omega)
        have hi' : Lib.index (c :: l) [0] = ((i + 1 : Nat) : Int) := by
          rw [index_zero_cons, if_neg h, hi]
          have : ((i : Int) == -1) = false := by rw [beq_eq_false_iff_ne]; omega
          simp [this]
        rw [Lib.replaceK_hit _ _ _ _ _ hi', Lib.replaceK_hit _ _ _ _ _ hi]
        simp [Nat.add_right_comm]

theorem replaceAll_esc (s : List UInt8) : Lib.replaceAll s [0] [0, 255] = esc s := by
  unfold Lib.replaceAll Lib.replace Lib.replaceNum
  rw [if_neg (by decide), if_pos (by left; decide)]
  exact repl_esc s

theorem esc_length (l : List UInt8) : (esc l).length ≤ 2 * l.length := by
  induction l with
  | nil => simp [esc]
  | cons c l ih =>
    have : (esc (c :: l)).length = (if c = 0 then [0, 255] else [c]).length + (esc l).length := by simp [esc]
    rw [this]
    by_cases h : c = 0
    · simp [h]; omega
    · simp [h]; omega

structure Pt where
  t : Bool
  n : Nat
  s : ByteArray
def Pt.cells (p : Pt) : List Value := [.bool p.t, .int .u64 p.n, .string p.s]
def Pt.val (p : Pt) : Value := .agg p.cells.toArray
def num' (n : Nat) : Pt := ⟨false, n, e0⟩
def str (s : ByteArray) : Pt := ⟨true, 0, s⟩
def Pt.good (p : Pt) : Prop := p.n < 2 ^ 64 ∧ p.s.size < 4294967281
def Pt.bytes (p : Pt) : List UInt8 := if p.t then 2 :: (esc p.s.data.toList ++ [0, 0]) else 1 :: (big p.n 8).data.toList
/-- order.Key: the parts' bytes, one behind the other, till there are too many. -/
def keyL : List Pt → List UInt8 → ByteArray × Int
  | [], acc => (⟨acc.toArray⟩, 0)
  | p :: l, acc => if (acc ++ p.bytes).length > 255 then (e0, 5) else keyL l (acc ++ p.bytes)

end Go.Oct
