import Derived.Lib.ItoaNum
import Derived.Lib.ItoaLen
import Derived.Lib.Join
set_option linter.unusedSimpArgs false
set_option linter.unusedVariables false
set_option linter.unusedSectionVars false
set_option linter.unnecessarySimpa false
namespace Go.Oct
open Go

/-! ### report, in plain lists of bytes -/

def hexT : List UInt8 := [48, 49, 50, 51, 52, 53, 54, 55, 56, 57, 97, 98, 99, 100, 101, 102]
def quoteB (c : UInt8) : List UInt8 :=
  if c = 34 ∨ c = 92 then [92, c] else if c = 10 then [92, 110] else
  if c < 32 ∨ 126 < c then [92, 120, hexT.getD (c.toNat / 16) 0, hexT.getD (c.toNat % 16) 0] else [c]
def quoteL (s : List UInt8) : List UInt8 := 34 :: (s.flatMap quoteB ++ [34])

theorem quoteB_len (c : UInt8) : (quoteB c).length ≤ 4 := by
  unfold quoteB
  split
  · simp
  split
  · simp
  split <;> simp
theorem quoteF_len (s : List UInt8) : (s.flatMap quoteB).length ≤ 4 * s.length := by
  induction s with
  | nil => simp
  | cons c s ih =>
    have := quoteB_len c
    simp only [List.flatMap_cons, List.length_append, List.length_cons]; omega
theorem quoteL_len (s : List UInt8) : (quoteL s).length ≤ 4 * s.length + 2 := by
  have := quoteF_len s
  simp only [quoteL, List.length_append, List.length_cons, List.length_nil]; omega

/-- what may be seen. -/
def seen (c : UInt8) : Bool := decide (32 ≤ c) && decide (c ≤ 126)
def plainB (c : UInt8) : Bool := decide (c = 10) || seen c
theorem quoteB_seen_fin : ∀ n : Fin 256, (quoteB (UInt8.ofNat n.val)).all seen = true := by decide +kernel
theorem quoteB_seen (c : UInt8) : ∀ d ∈ quoteB c, seen d = true := by
  have h := quoteB_seen_fin ⟨c.toNat, c.toNat_lt⟩
  rw [UInt8.ofNat_toNat] at h
  exact List.all_eq_true.1 h
theorem quoteL_seen (s : List UInt8) : ∀ d ∈ quoteL s, seen d = true := by
  intro d hd
  unfold quoteL at hd
  rcases List.mem_cons.1 hd with rfl | hd
  · decide
  rcases List.mem_append.1 hd with hd | hd
  · obtain ⟨c, _, h⟩ := List.mem_flatMap.1 hd
    exact quoteB_seen c d h
  · rw [List.mem_singleton.1 hd]; decide

theorem dec_len (n : Nat) (h : n < 2 ^ 64) : (Lib.decDigits n).length ≤ 20 := by
  rw [Lib.decDigits_length]; exact Lib.nDigits_le20 n h
theorem dec_rec (n : Nat) : Lib.decDigits n = if n < 10 then [UInt8.ofNat (48 + n)] else Lib.decDigits (n / 10) ++ [UInt8.ofNat (48 + n % 10)] := by
  rw [Lib.decDigits]
  split <;> rfl
theorem digit_seen_fin : ∀ n : Fin 10, seen (UInt8.ofNat (48 + n.val)) = true := by decide
theorem dec_seen (n : Nat) : ∀ d ∈ Lib.decDigits n, seen d = true := by
  induction n using Nat.strongRecOn with
  | ind n ih =>
    intro d hd
    rw [dec_rec] at hd
    split at hd
    · rename_i h
      rw [List.mem_singleton.1 hd]
      exact digit_seen_fin ⟨n, h⟩
    · rename_i h
      rcases List.mem_append.1 hd with hd | hd
      · exact ih (n / 10) (by omega) d hd
      · rw [List.mem_singleton.1 hd]
        exact digit_seen_fin ⟨n % 10, by omega⟩
theorem itoa_seen (i : Int) : ∀ d ∈ Lib.itoa i, seen d = true := by
  intro d hd
  unfold Lib.itoa at hd
  split at hd
  · rcases List.mem_cons.1 hd with rfl | hd
    · decide
    · exact dec_seen _ d hd
  · exact dec_seen _ d hd

/-- numbers, within brackets. -/
def listL (l : List Nat) : List UInt8 := 91 :: (Lib.join (l.map Lib.decDigits) [32] ++ [93])

theorem join_snoc (xs : List (List UInt8)) (x sep : List UInt8) (h : xs ≠ []) : Lib.join (xs ++ [x]) sep = Lib.join xs sep ++ (sep ++ x) := by
  cases xs with
  | nil => exact absurd rfl h
  | cons y r =>
    rw [List.cons_append, Lib.join_cons, Lib.join_cons, List.append_assoc]
    congr 1
    simp [Lib.joinTail]
theorem joinTail_nil (sep : List UInt8) : Lib.joinTail sep [] = [] := rfl
theorem joinTail_cons (sep x : List UInt8) (r : List (List UInt8)) : Lib.joinTail sep (x :: r) = sep ++ x ++ Lib.joinTail sep r := by simp [Lib.joinTail]
theorem join_len (k : Nat) (xs : List (List UInt8)) (h : ∀ x ∈ xs, x.length ≤ k) : (Lib.join xs [32]).length ≤ (k + 1) * xs.length := by
  have aux : ∀ xs : List (List UInt8), (∀ x ∈ xs, x.length ≤ k) → (Lib.joinTail [32] xs).length ≤ (k + 1) * xs.length := by
    intro xs
    induction xs with
    | nil => intro _; simp [Lib.joinTail]
    | cons x r ih =>
      intro h
      have h1 := h x List.mem_cons_self
      have h2 := ih (fun y hy => h y (List.mem_cons_of_mem _ hy))
      rw [joinTail_cons, List.length_append, List.length_append, List.length_cons, List.length_cons, List.length_nil, Nat.mul_add]; omega
  cases xs with
  | nil => simp [Lib.join_nil]
  | cons x r =>
    have h1 := h x List.mem_cons_self
    have h2 := aux r (fun y hy => h y (List.mem_cons_of_mem _ hy))
    rw [Lib.join_cons, List.length_append, List.length_cons, Nat.mul_add]; omega
theorem listL_len (l : List Nat) (h : ∀ n ∈ l, n < 2 ^ 64) : (listL l).length ≤ 21 * l.length + 2 := by
  have := join_len 20 (l.map Lib.decDigits) (fun x hx => by
    obtain ⟨n, hn, rfl⟩ := List.mem_map.1 hx
    exact dec_len n (h n hn))
  rw [List.length_map] at this
  simp only [listL, List.length_append, List.length_cons, List.length_nil]; omega
theorem joinTail_seen {xs : List (List UInt8)} (h : ∀ x ∈ xs, ∀ d ∈ x, seen d = true) : ∀ d ∈ Lib.joinTail [32] xs, seen d = true := by
  induction xs with
  | nil => intro d hd; simp [Lib.joinTail] at hd
  | cons x r ih =>
    intro d hd
    rw [joinTail_cons] at hd
    rcases List.mem_append.1 hd with hd | hd
    · rcases List.mem_append.1 hd with hd | hd
      · rw [List.mem_singleton.1 hd]; decide
      · exact h x List.mem_cons_self d hd
    · exact ih (fun y hy => h y (List.mem_cons_of_mem _ hy)) d hd
theorem join_seen {xs : List (List UInt8)} (h : ∀ x ∈ xs, ∀ d ∈ x, seen d = true) : ∀ d ∈ Lib.join xs [32], seen d = true := by
  cases xs with
  | nil => intro d hd; simp [Lib.join_nil] at hd
  | cons x r =>
    intro d hd
    rw [Lib.join_cons] at hd
    rcases List.mem_append.1 hd with hd | hd
    · exact h x List.mem_cons_self d hd
    · exact joinTail_seen (fun y hy => h y (List.mem_cons_of_mem _ hy)) d hd
theorem listL_seen (l : List Nat) : ∀ d ∈ listL l, seen d = true := by
  intro d hd
  unfold listL at hd
  rcases List.mem_cons.1 hd with rfl | hd
  · decide
  rcases List.mem_append.1 hd with hd | hd
  · refine join_seen ?_ d hd
    intro x hx
    obtain ⟨n, _, rfl⟩ := List.mem_map.1 hx
    exact dec_seen n
  · rw [List.mem_singleton.1 hd]; decide

end Go.Oct
