import Derived.Test.YtnpfllldeoiadaaGreatDoorVoV
set_option linter.unusedSimpArgs false
set_option linter.unusedVariables false
set_option linter.unusedSectionVars false
set_option linter.unnecessarySimpa false
namespace Go.Oct
open Go

/-! ### what the law says, in plain Lean -/

def okE (e : Int) : Prop := e = 0 ∨ e = 3 ∨ e = 4 ∨ e = 5
theorem take_okE {r : Rd} (h : okE r.2) (n : Int) : okE (take r n).2.2 := by
  unfold take
  split
  · exact h
  · split
    · exact .inr (.inl rfl)
    · exact h
theorem fail_okE {r : Rd} (h : okE r.2) {e : Int} (he : okE e) : okE (fail r e).2 := by
  unfold fail
  split
  · exact he
  · exact h
theorem number_okE {r : Rd} (h : okE r.2) (n : Int) : okE (number r n).2.2 := take_okE h n
theorem text_okE {r : Rd} (h : okE r.2) (n : Int) : okE (text r n).2.2 := by
  unfold text
  simp only []
  split
  · exact fail_okE (number_okE h 4) (.inr (.inr (.inr rfl)))
  · exact take_okE (number_okE h 4) _
theorem ver_okE {r : Rd} (h : okE r.2) : okE (ver r).2 := by
  unfold ver
  split
  · exact fail_okE (number_okE h 1) (.inr (.inr (.inl rfl)))
  · exact number_okE h 1
theorem ende_okE {r : Rd} (h : okE r.2) : okE (ende r) := by
  unfold ende
  split
  · exact h
  · split
    · exact .inr (.inr (.inl rfl))
    · exact .inl rfl
theorem qread_okE (name s : ByteArray) : okE (qread name s).2 := by
  have h : okE (ende (qget name (ver (s, 0))).2) := ende_okE (text_okE (number_okE (number_okE (number_okE (ver_okE (.inl rfl)) 4) 8) 4) 32)
  unfold qread
  simp only []
  split
  · exact h
  · exact .inl rfl

/-- no fault so far: what is left, and how much was taken. -/
theorem take_good {r : Rd} {n : Int} (hn : 0 ≤ n) (h : (take r n).2.2 = 0) : r.2 = 0 ∧ (take r n).2.1.size + n.toNat = r.1.size ∧ (take r n).1 = r.1.extract 0 n.toNat := by
  unfold take at h ⊢
  by_cases h0 : r.2 ≠ 0
  · rw [if_pos h0] at h; exact (h0 h).elim
  · rw [if_neg h0] at h ⊢
    by_cases h1 : n < 0 ∨ n > r.1.size
    · rw [if_pos h1] at h; cases h
    · rw [if_neg h1]
      refine ⟨by simpa using h0, ?_, rfl⟩
      simp only [ByteArray.size_extract]
      omega
theorem fail_good {r : Rd} {e : Int} (he : e ≠ 0) (h : (fail r e).2 = 0) : False := by
  unfold fail at h
  split at h
  · exact he h
  · rename_i h0; exact h0 h
theorem ver_good {r : Rd} (h : (ver r).2 = 0) : r.2 = 0 ∧ (ver r).1.size + 1 = r.1.size ∧ ver r = (take r 1).2 ∧ (number r 1).1 % 256 = 1 := by
  unfold ver at h ⊢
  split at h
  · exact (fail_good (by decide) h).elim
  · rename_i h0
    rw [if_neg h0]
    have := take_good (r := r) (n := 1) (by decide) h
    refine ⟨this.1, ?_, rfl, by simpa using h0⟩
    have h2 := this.2.1
    exact h2
theorem text_good {r : Rd} {n : Int} (h : (text r n).2.2 = 0) : r.2 = 0 ∧ 4 ≤ r.1.size := by
  unfold text at h
  simp only [] at h
  have key : (number r 4).2.2 = 0 := by
    split at h
    · exact (fail_good (by decide) h).elim
    · exact (take_good (by omega) h).1
  have := take_good (r := r) (n := 4) (by decide) key
  refine ⟨this.1, ?_⟩
  have := this.2.1
  have e : (4 : Int).toNat = 4 := rfl
  omega
theorem ende_good {r : Rd} (h : ende r = 0) : r.2 = 0 ∧ r.1.size = 0 := by
  unfold ende at h
  split at h
  · rename_i h0; exact (h0 h).elim
  · rename_i h0
    split at h
    · cases h
    · rename_i h1; exact ⟨by simpa using h0, by omega⟩
theorem qread_size {name s : ByteArray} (h : (qread name s).2 = 0) : 21 ≤ s.size := by
  unfold qread at h
  simp only [] at h
  have he : ende (qget name (ver (s, 0))).2 = 0 := by
    split at h
    · rename_i h0; exact (h0 h).elim
    · rename_i h0; simpa using h0
  have h4 := text_good (ende_good he).1
  have h3 := take_good (by decide) h4.1
  have h2 := take_good (by decide) h3.1
  have h1 := take_good (by decide) h2.1
  have h0 := ver_good h1.1
  have e1 : (ver (s, 0)).1.size + 1 = s.size := h0.2.1
  have e2 : (number (ver (s, 0)) 4).2.1.size + 4 = (ver (s, 0)).1.size := h1.2.1
  have e3 : (number (number (ver (s, 0)) 4).2 8).2.1.size + 8 = (number (ver (s, 0)) 4).2.1.size := h2.2.1
  have e4 : (number (number (number (ver (s, 0)) 4).2 8).2 4).2.1.size + 4 = (number (number (ver (s, 0)) 4).2 8).2.1.size := h3.2.1
  have e5 : 4 ≤ (number (number (number (ver (s, 0)) 4).2 8).2 4).2.1.size := h4.2
  omega

/-- bytes[0]. -/
def first (s : ByteArray) : Nat := ((s.data[0]?).getD 0).toNat
def wholeB (s : ByteArray) : Bool := decide (s.size = 9) && decide (first s = 1)
def eightR (s : ByteArray) : Nat := (number (take (s, 0) 1).2 8).1

theorem number_first {s : ByteArray} (h : 0 < s.size) : (number (s, 0) 1).1 = first s := by
  unfold number take
  rw [if_neg (by simp), if_neg (by simp only []; omega)]
  have e : (s.extract 0 (1 : Int).toNat).data.toList = [(s.data[0]?).getD 0] := by
    have h0 : 0 < s.data.size := h
    have e1 : (1 : Int).toNat = 1 := rfl
    rw [e1, ByteArray.data_extract, Array.toList_extract, List.extract_eq_take_drop]
    simp only [List.drop_zero, Nat.sub_zero]
    rw [List.take_one, List.head?_eq_getElem?]
    rw [Array.getElem?_toList, Array.getElem?_eq_getElem h0]; rfl
  simp only [num, e, numL, List.foldl_cons, List.foldl_nil, first]
  have := ((s.data[0]?).getD 0).toNat_lt
  omega

theorem cread_whole {s : ByteArray} (h : wholeB s = true) : cread s = (eightR s, 0) := by
  simp only [wholeB, Bool.and_eq_true, decide_eq_true_eq] at h
  have hf := number_first (s := s) (by omega)
  have hv : ver (s, 0) = (take (s, 0) 1).2 := by
    unfold ver
    rw [if_neg (by rw [hf, h.2]; decide)]
    rfl
  have ht : (take (s, 0) 1).2 = (s.extract 1 s.size, 0) := by
    unfold take
    rw [if_neg (by simp), if_neg (by simp only []; omega)]
    rfl
  have ht2 : (number (take (s, 0) 1).2 8).2 = ((s.extract 1 s.size).extract 8 (s.extract 1 s.size).size, 0) := by
    rw [ht]
    unfold number take
    have : (s.extract 1 s.size).size = 8 := by simp only [ByteArray.size_extract]; omega
    rw [if_neg (by simp), if_neg (by simp only [this]; omega)]
    rfl
  have hend : ende ((s.extract 1 s.size).extract 8 (s.extract 1 s.size).size, 0) = 0 := by
    unfold ende
    rw [if_neg (by simp), if_neg (by simp only [ByteArray.size_extract]; omega)]
  unfold cread
  rw [hv]
  simp only []
  rw [ht2, hend, if_neg (by simp)]
  rfl

theorem cread_good {s : ByteArray} (h : (cread s).2 = 0) : wholeB s = true := by
  unfold cread at h
  simp only [] at h
  have he : ende (number (ver (s, 0)) 8).2 = 0 := by
    split at h
    · rename_i h0; exact (h0 h).elim
    · rename_i h0; simpa using h0
  have h2 := ende_good he
  have h1 := take_good (by decide) h2.1
  have h0 := ver_good h1.1
  have e1 : (ver (s, 0)).1.size + 1 = s.size := h0.2.1
  have e2 : (number (ver (s, 0)) 8).2.1.size + 8 = (ver (s, 0)).1.size := h1.2.1
  have e3 := h2.2
  have hsz : s.size = 9 := by omega
  have hf := number_first (s := s) (by omega)
  have hlt : first s < 256 := ((s.data[0]?).getD 0).toNat_lt
  have h4 := h0.2.2.2
  rw [hf] at h4
  simp only [wholeB, Bool.and_eq_true, decide_eq_true_eq]
  omega

/-- Next's answer at these bytes. -/
def nextR (s : ByteArray) : Nat × Int := if (cread s).2 ≠ 0 then (0, (cread s).2) else if (cread s).1 = 18446744073709551615 then (0, 8) else ((cread s).1 + 1, 0)

theorem next_good (s : ByteArray) : ((nextR s).2 = 0 ↔ wholeB s = true ∧ eightR s < 18446744073709551615) ∧ ((nextR s).2 = 0 → (nextR s).1 = eightR s + 1) := by
  unfold nextR
  by_cases h : (cread s).2 = 0
  · have hw := cread_good h
    have he := cread_whole hw
    rw [if_neg (by simpa using h), he]
    have hlt : eightR s < 2 ^ 64 := num_lt _
    by_cases hm : eightR s = 18446744073709551615
    · rw [if_pos hm]
      exact ⟨Iff.intro (fun x => by simp at x) (fun x => by omega), fun x => by simp at x⟩
    · rw [if_neg hm]
      exact ⟨Iff.intro (fun _ => ⟨hw, by omega⟩) (fun _ => rfl), fun _ => rfl⟩
  · rw [if_pos h]
    refine ⟨Iff.intro (fun x => (h x).elim) (fun x => ?_), fun x => (h x).elim⟩
    rw [cread_whole x.1] at h
    exact (h rfl).elim

end Go.Oct

namespace Go.Oct
open Go Go.Vc Go.VrA
set_option maxRecDepth 100000

/-! ### the law -/

def m2 (C B : List UInt8) : M := [(ckL, C), (qkL, B)]
theorem new_two (B : List UInt8) : putM ckL B (putM qkL B []) = m2 B B := by rfl
theorem look_q (C B : List UInt8) : lookM qkL (m2 C B) = some B := by rfl
theorem look_c (C B : List UInt8) : lookM ckL (m2 C B) = some C := by rfl
theorem put_c (C B D : List UInt8) : putM ckL D (m2 C B) = m2 D B := by rfl
theorem rng_q (C B : List UInt8) : rngM [2, 113, 0, 0] [2, 113, 0, 1] (m2 C B) = [(qkL, B)] := by rfl

theorem mk_toList (s : ByteArray) : (⟨s.data.toList.toArray⟩ : ByteArray) = s := by cases s; simp
theorem find_two (sb mb : Nat) (h0 : 0 ≠ mb) (n : Nat) (C : List UInt8) (s : ByteArray) : (shelf sb mb h0).find (n, m2 C s.data.toList) aB = (qread aB s, (n, m2 C s.data.toList)) := by
  rw [find_shelf, look_q]
  simp only [Option.getD_some, Option.isSome_some, mk_toList]
  rfl
theorem declare_two (sb mb : Nat) (h0 : 0 ≠ mb) (n : Nat) (C : List UInt8) (s : ByteArray) : (shelf sb mb h0).declare (n, m2 C s.data.toList) qa = (if (qread aB s).2 = 0 then 22 else (qread aB s).2, (n, m2 C s.data.toList)) := by
  rw [declare_shelf, look_q]
  simp only [Option.getD_some, Option.isSome_some, mk_toList]
  have e : findR aB (s, true, 0) = qread aB s := rfl
  rw [e]
  by_cases h : (qread aB s).2 = 0
  · rw [if_pos h, if_pos h]
  · have := qread_okE aB s
    rw [if_neg h, if_neg h, if_pos (by rcases this with x | x | x | x <;> omega)]
theorem cbytes_size (n : Nat) : (cbytes n).size = 9 := by simp [cbytes, ByteArray.size_append, big_size]
theorem next_two (sb mb : Nat) (h0 : 0 ≠ mb) (n : Nat) (s : ByteArray) (hs : s.size ≤ 200) :
    ∃ C : List UInt8, ∃ n', n' ≤ n + 1 ∧ C.length ≤ 200 ∧ (shelf sb mb h0).next (n, m2 s.data.toList s.data.toList) aB = (nextR s, (n', m2 C s.data.toList)) := by
  have hg : (shelf sb mb h0).get (n, m2 s.data.toList s.data.toList) ⟨ckL.toArray⟩ = ((s, true, 0), (n, m2 s.data.toList s.data.toList)) := by
    show (((⟨((lookM ckL (m2 s.data.toList s.data.toList)).getD []).toArray⟩ : ByteArray), (lookM ckL (m2 s.data.toList s.data.toList)).isSome, (0 : Int)), (n, m2 s.data.toList s.data.toList)) = _
    rw [look_c]
    simp only [Option.getD_some, Option.isSome_some, mk_toList]
  have hs' : s.data.toList.length ≤ 200 := hs
  unfold Sto.next nextR
  rw [counterK_a, if_neg (by simp)]
  simp only []
  rw [hg]
  simp only [if_true, ne_eq, not_true_eq_false, if_false]
  by_cases h1 : (cread s).2 = 0
  · simp only [h1, not_true_eq_false, if_false]
    by_cases h2 : (cread s).1 = 18446744073709551615
    · simp only [h2, if_true]
      exact ⟨_, n, by omega, hs', rfl⟩
    · have hp : (shelf sb mb h0).put (n, m2 s.data.toList s.data.toList) ⟨ckL.toArray⟩ (cbytes ((cread s).1 + 1)) = (0, (n + 1, m2 (cbytes ((cread s).1 + 1)).data.toList s.data.toList)) := by
        have e : (shelf sb mb h0).put (n, m2 s.data.toList s.data.toList) ⟨ckL.toArray⟩ (cbytes ((cread s).1 + 1)) = if (⟨ckL.toArray⟩ : ByteArray).size > 255 ∨ (cbytes ((cread s).1 + 1)).size > 65536 then (5, (n, m2 s.data.toList s.data.toList)) else (0, (n + 1, putM ckL (cbytes ((cread s).1 + 1)).data.toList (m2 s.data.toList s.data.toList))) := rfl
        rw [e, if_neg (by rw [cbytes_size]; decide), put_c]
      simp only [h2, if_false, hp, not_true_eq_false]
      refine ⟨_, n + 1, Nat.le_refl _, ?_, rfl⟩
      have := cbytes_size ((cread s).1 + 1)
      show (cbytes ((cread s).1 + 1)).size ≤ 200
      omega
  · simp only [h1, not_false_eq_true, if_true]
    exact ⟨_, n, by omega, hs', rfl⟩

theorem qgot_q (s : ByteArray) : qgot ((qkL, s.data.toList), 0) = qread aB s := by
  unfold qgot
  simp only [parse_q, mk_toList]
  rfl
def thg (s : ByteArray) : List (Qu × Int) := if (qread aB s).2 ≠ 0 then [(q0, (qread aB s).2)] else [((qread aB s).1, 0)]
theorem things_two (sb mb : Nat) (h0 : 0 ≠ mb) (n : Nat) (C : List UInt8) (s : ByteArray) : (shelf sb mb h0).under (n, m2 C s.data.toList) ⟨#[113]⟩ [] = [((qkL, s.data.toList), 0)] := by
  unfold Sto.under
  rw [under_q, if_neg (by simp [ByteArray.toList_eq])]
  show okRows (rngM [2, 113, 0, 0] [2, 113, 0, 1] (m2 C s.data.toList)) = _
  rw [rng_q]; rfl
theorem things_thg (s : ByteArray) : thingsQ [((qkL, s.data.toList), 0)] = thg s := by
  unfold thg
  rw [thingsQ, qgot_q]
  rfl

end Go.Oct
