import Derived.Test.YtbkddpckkgbbmaaGreatDoorVoV
set_option linter.unusedSimpArgs false
set_option linter.unusedVariables false
set_option linter.unusedSectionVars false
set_option linter.unnecessarySimpa false
namespace Go.Oct
open Go

/-! ### what the law says, in plain Lean -/

def okE (e : Int) : Prop := e = 0 ∨ e = 3 ∨ e = 4 ∨ e = 5
theorem take_okE {r : Rd} (h : okE r.2) (n : Int) : okE (take r n).2.2 := by
  unfold take
  split
  · exact h
  · split
    · exact .inr (.inl rfl)
    · exact h
theorem fail_okE {r : Rd} (h : okE r.2) {e : Int} (he : okE e) : okE (fail r e).2 := by
  unfold fail
  split
  · exact he
  · exact h
theorem number_okE {r : Rd} (h : okE r.2) (n : Int) : okE (number r n).2.2 := take_okE h n
theorem text_okE {r : Rd} (h : okE r.2) (n : Int) : okE (text r n).2.2 := by
  unfold text
  simp only []
  split
  · exact fail_okE (number_okE h 4) (.inr (.inr (.inr rfl)))
  · exact take_okE (number_okE h 4) _
theorem ver_okE {r : Rd} (h : okE r.2) : okE (ver r).2 := by
  unfold ver
  split
  · exact fail_okE (number_okE h 1) (.inr (.inr (.inl rfl)))
  · exact number_okE h 1
theorem ende_okE {r : Rd} (h : okE r.2) : okE (ende r) := by
  unfold ende
  split
  · exact h
  · split
    · exact .inr (.inr (.inl rfl))
    · exact .inl rfl
theorem qread_okE (name s : ByteArray) : okE (qread name s).2 := by
  have h : okE (ende (qget name (ver (s, 0))).2) := ende_okE (text_okE (number_okE (number_okE (number_okE (ver_okE (.inl rfl)) 4) 8) 4) 32)
  unfold qread
  simp only []
  split
  · exact h
  · exact .inl rfl

/-- no fault so far: what is left, and how much was taken. -/
theorem take_good {r : Rd} {n : Int} (hn : 0 ≤ n) (h : (take r n).2.2 = 0) : r.2 = 0 ∧ (take r n).2.1.size + n.toNat = r.1.size ∧ (take r n).1 = r.1.extract 0 n.toNat := by
  unfold take at h ⊢
  by_cases h0 : r.2 ≠ 0
  · rw [if_pos h0] at h; exact (h0 h).elim
  · rw [if_neg h0] at h ⊢
    by_cases h1 : n < 0 ∨ n > r.1.size
    · rw [if_pos h1] at h; cases h
    · rw [if_neg h1]
      refine ⟨by simpa using h0, ?_, rfl⟩
      simp only [ByteArray.size_extract]
      omega
theorem fail_good {r : Rd} {e : Int} (he : e ≠ 0) (h : (fail r e).2 = 0) : False := by
  unfold fail at h
  split at h
  · exact he h
  · rename_i h0; exact h0 h
theorem ver_good {r : Rd} (h : (ver r).2 = 0) : r.2 = 0 ∧ (ver r).1.size + 1 = r.1.size ∧ ver r = (take r 1).2 ∧ (number r 1).1 % 256 = 1 := by
  unfold ver at h ⊢
  split at h
  · exact (fail_good (by decide) h).elim
  · rename_i h0
    rw [if_neg h0]
    have := take_good (r := r) (n := 1) (by decide) h
    refine ⟨this.1, ?_, rfl, by simpa using h0⟩
    have h2 := this.2.1
    exact h2
theorem text_good {r : Rd} {n : Int} (h : (text r n).2.2 = 0) : r.2 = 0 ∧ 4 ≤ r.1.size := by
  unfold text at h
  simp only [] at h
  have key : (number r 4).2.2 = 0 := by
    split at h
    · exact (fail_good (by decide) h).elim
    · exact (take_good (by omega) h).1
  have := take_good (r := r) (n := 4) (by decide) key
  refine ⟨this.1, ?_⟩
  have := this.2.1
  have e : (4 : Int).toNat = 4 := rfl
  omega
theorem ende_good {r : Rd} (h : ende r = 0) : r.2 = 0 ∧ r.1.size = 0 := by
  unfold ende at h
  split at h
  · rename_i h0; exact (h0 h).elim
  · rename_i h0
    split at h
    · cases h
    · rename_i h1; exact ⟨by simpa using h0, by omega⟩
theorem qread_size {name s : ByteArray} (h : (qread name s).2 = 0) : 21 ≤ s.size := by
  unfold qread at h
  simp only [] at h
  have he : ende (qget name (ver (s, 0))).2 = 0 := by
    split at h
    · rename_i h0; exact (h0 h).elim
    · rename_i h0; simpa using h0
  have h4 := text_good (ende_good he).1
  have h3 := take_good (by decide) h4.1
  have h2 := take_good (by decide) h3.1
  have h1 := take_good (by decide) h2.1
  have h0 := ver_good h1.1
  have e1 : (ver (s, 0)).1.size + 1 = s.size := h0.2.1
  have e2 : (number (ver (s, 0)) 4).2.1.size + 4 = (ver (s, 0)).1.size := h1.2.1
  have e3 : (number (number (ver (s, 0)) 4).2 8).2.1.size + 8 = (number (ver (s, 0)) 4).2.1.size := h2.2.1
  have e4 : (number (number (number (ver (s, 0)) 4).2 8).2 4).2.1.size + 4 = (number (number (ver (s, 0)) 4).2 8).2.1.size := h3.2.1
  have e5 : 4 ≤ (number (number (number (ver (s, 0)) 4).2 8).2 4).2.1.size := h4.2
  omega

/-- bytes[0]. -/
def first (s : ByteArray) : Nat := ((s.data[0]?).getD 0).toNat
def wholeB (s : ByteArray) : Bool := decide (s.size = 9) && decide (first s = 1)
def eightR (s : ByteArray) : Nat := (number (take (s, 0) 1).2 8).1

theorem number_first {s : ByteArray} (h : 0 < s.size) : (number (s, 0) 1).1 = first s := by
  unfold number take
  rw [if_neg (by simp), if_neg (by simp only []; omega)]
  have e : (s.extract 0 (1 : Int).toNat).data.toList = [(s.data[0]?).getD 0] := by
    have h0 : 0 < s.data.size := h
    have e1 : (1 : Int).toNat = 1 := rfl
    rw [e1, ByteArray.data_extract, Array.toList_extract, List.extract_eq_take_drop]
    simp only [List.drop_zero, Nat.sub_zero]
    rw [List.take_one, List.head?_eq_getElem?]
    rw [Array.getElem?_toList, Array.getElem?_eq_getElem h0]; rfl
  simp only [num, e, numL, List.foldl_cons, List.foldl_nil, first]
  have := ((s.data[0]?).getD 0).toNat_lt
  omega

theorem cread_whole {s : ByteArray} (h : wholeB s = true) : cread s = (eightR s, 0) := by
  simp only [wholeB, Bool.and_eq_true, decide_eq_true_eq] at h
  have hf := number_first (s := s) (by omega)
  have hv : ver (s, 0) = (take (s, 0) 1).2 := by
    unfold ver
    rw [if_neg (by rw [hf, h.2]; decide)]
    rfl
  have ht : (take (s, 0) 1).2 = (s.extract 1 s.size, 0) := by
    unfold take
    rw [if_neg (by simp), if_neg (by simp only []; omega)]
    rfl
  have ht2 : (number (take (s, 0) 1).2 8).2 = ((s.extract 1 s.size).extract 8 (s.extract 1 s.size).size, 0) := by
    rw [ht]
    unfold number take
    have : (s.extract 1 s.size).size = 8 := by simp only [ByteArray.size_extract]; omega
    rw [if_neg (by simp), if_neg (by simp only [this]; omega)]
    rfl
  have hend : ende ((s.extract 1 s.size).extract 8 (s.extract 1 s.size).size, 0) = 0 := by
    unfold ende
    rw [if_neg (by simp), if_neg (by simp only [ByteArray.size_extract]; omega)]
  unfold cread
  rw [hv]
  simp only []
  rw [ht2, hend, if_neg (by simp)]
  rfl

theorem cread_good {s : ByteArray} (h : (cread s).2 = 0) : wholeB s = true := by
  unfold cread at h
  simp only [] at h
  have he : ende (number (ver (s, 0)) 8).2 = 0 := by
    split at h
    · rename_i h0; exact (h0 h).elim
    · rename_i h0; simpa using h0
  have h2 := ende_good he
  have h1 := take_good (by decide) h2.1
  have h0 := ver_good h1.1
  have e1 : (ver (s, 0)).1.size + 1 = s.size := h0.2.1
  have e2 : (number (ver (s, 0)) 8).2.1.size + 8 = (ver (s, 0)).1.size := h1.2.1
  have e3 := h2.2
  have hsz : s.size = 9 := by omega
  have hf := number_first (s := s) (by omega)
  have hlt : first s < 256 := ((s.data[0]?).getD 0).toNat_lt
  have h4 := h0.2.2.2
  rw [hf] at h4
  simp only [wholeB, Bool.and_eq_true, decide_eq_true_eq]
  omega

/-- Next's answer at these bytes. -/
def nextR (s : ByteArray) : Nat × Int := if (cread s).2 ≠ 0 then (0, (cread s).2) else if (cread s).1 = 18446744073709551615 then (0, 8) else ((cread s).1 + 1, 0)

theorem next_good (s : ByteArray) : ((nextR s).2 = 0 ↔ wholeB s = true ∧ eightR s < 18446744073709551615) ∧ ((nextR s).2 = 0 → (nextR s).1 = eightR s + 1) := by
  unfold nextR
  by_cases h : (cread s).2 = 0
  · have hw := cread_good h
    have he := cread_whole hw
    rw [if_neg (by simpa using h), he]
    have hlt : eightR s < 2 ^ 64 := num_lt _
    by_cases hm : eightR s = 18446744073709551615
    · rw [if_pos hm]
      exact ⟨Iff.intro (fun x => by simp at x) (fun x => by omega), fun x => by simp at x⟩
    · rw [if_neg hm]
      exact ⟨Iff.intro (fun _ => ⟨hw, by omega⟩) (fun _ => rfl), fun _ => rfl⟩
  · rw [if_pos h]
    refine ⟨Iff.intro (fun x => (h x).elim) (fun x => ?_), fun x => (h x).elim⟩
    rw [cread_whole x.1] at h
    exact (h rfl).elim

end Go.Oct

namespace Go.Oct
open Go Go.Vc Go.VrA
set_option maxRecDepth 100000

/-! ### the law -/

def m2 (C B : List UInt8) : M := [(ckL, C), (qkL, B)]
theorem new_two (B : List UInt8) : putM ckL B (putM qkL B []) = m2 B B := by rfl
theorem look_q (C B : List UInt8) : lookM qkL (m2 C B) = some B := by rfl
theorem look_c (C B : List UInt8) : lookM ckL (m2 C B) = some C := by rfl
theorem put_c (C B D : List UInt8) : putM ckL D (m2 C B) = m2 D B := by rfl
theorem rng_q (C B : List UInt8) : rngM [2, 113, 0, 0] [2, 113, 0, 1] (m2 C B) = [(qkL, B)] := by rfl

theorem mk_toList (s : ByteArray) : (⟨s.data.toList.toArray⟩ : ByteArray) = s := by cases s; simp
theorem find_two (sb mb : Nat) (h0 : 0 ≠ mb) (n : Nat) (C : List UInt8) (s : ByteArray) : (shelf sb mb h0).find (n, m2 C s.data.toList) aB = (qread aB s, (n, m2 C s.data.toList)) := by
  rw [find_shelf, look_q]
  simp only [Option.getD_some, Option.isSome_some, mk_toList]
  rfl
theorem declare_two (sb mb : Nat) (h0 : 0 ≠ mb) (n : Nat) (C : List UInt8) (s : ByteArray) : (shelf sb mb h0).declare (n, m2 C s.data.toList) qa = (if (qread aB s).2 = 0 then 22 else (qread aB s).2, (n, m2 C s.data.toList)) := by
  rw [declare_shelf, look_q]
  simp only [Option.getD_some, Option.isSome_some, mk_toList]
  have e : findR aB (s, true, 0) = qread aB s := rfl
  rw [e]
  by_cases h : (qread aB s).2 = 0
  · rw [if_pos h, if_pos h]
  · have := qread_okE aB s
    rw [if_neg h, if_neg h, if_pos (by rcases this with x | x | x | x <;> omega)]
theorem cbytes_size (n : Nat) : (cbytes n).size = 9 := by simp [cbytes, ByteArray.size_append, big_size]
theorem next_two (sb mb : Nat) (h0 : 0 ≠ mb) (n : Nat) (s : ByteArray) (hs : s.size ≤ 200) :
    ∃ C : List UInt8, ∃ n', n' ≤ n + 1 ∧ C.length ≤ 200 ∧ (shelf sb mb h0).next (n, m2 s.data.toList s.data.toList) aB = (nextR s, (n', m2 C s.data.toList)) := by
  have hg : (shelf sb mb h0).get (n, m2 s.data.toList s.data.toList) ⟨ckL.toArray⟩ = ((s, true, 0), (n, m2 s.data.toList s.data.toList)) := by
    show (((⟨((lookM ckL (m2 s.data.toList s.data.toList)).getD []).toArray⟩ : ByteArray), (lookM ckL (m2 s.data.toList s.data.toList)).isSome, (0 : Int)), (n, m2 s.data.toList s.data.toList)) = _
    rw [look_c]
    simp only [Option.getD_some, Option.isSome_some, mk_toList]
  have hs' : s.data.toList.length ≤ 200 := hs
  unfold Sto.next nextR
  rw [counterK_a, if_neg (by simp)]
  simp only []
  rw [hg]
  simp only [if_true, ne_eq, not_true_eq_false, if_false]
  by_cases h1 : (cread s).2 = 0
  · simp only [h1, not_true_eq_false, if_false]
    by_cases h2 : (cread s).1 = 18446744073709551615
    · simp only [h2, if_true]
      exact ⟨_, n, by omega, hs', rfl⟩
    · have hp : (shelf sb mb h0).put (n, m2 s.data.toList s.data.toList) ⟨ckL.toArray⟩ (cbytes ((cread s).1 + 1)) = (0, (n + 1, m2 (cbytes ((cread s).1 + 1)).data.toList s.data.toList)) := by
        have e : (shelf sb mb h0).put (n, m2 s.data.toList s.data.toList) ⟨ckL.toArray⟩ (cbytes ((cread s).1 + 1)) = if (⟨ckL.toArray⟩ : ByteArray).size > 255 ∨ (cbytes ((cread s).1 + 1)).size > 65536 then (5, (n, m2 s.data.toList s.data.toList)) else (0, (n + 1, putM ckL (cbytes ((cread s).1 + 1)).data.toList (m2 s.data.toList s.data.toList))) := rfl
        rw [e, if_neg (by rw [cbytes_size]; decide), put_c]
      simp only [h2, if_false, hp, not_true_eq_false]
      refine ⟨_, n + 1, Nat.le_refl _, ?_, rfl⟩
      have := cbytes_size ((cread s).1 + 1)
      show (cbytes ((cread s).1 + 1)).size ≤ 200
      omega
  · simp only [h1, not_false_eq_true, if_true]
    exact ⟨_, n, by omega, hs', rfl⟩

theorem qgot_q (s : ByteArray) : qgot ((qkL, s.data.toList), 0) = qread aB s := by
  unfold qgot
  simp only [parse_q, mk_toList]
  rfl
def thg (s : ByteArray) : List (Qu × Int) := if (qread aB s).2 ≠ 0 then [(q0, (qread aB s).2)] else [((qread aB s).1, 0)]
theorem things_two (sb mb : Nat) (h0 : 0 ≠ mb) (n : Nat) (C : List UInt8) (s : ByteArray) : (shelf sb mb h0).under (n, m2 C s.data.toList) ⟨#[113]⟩ [] = [((qkL, s.data.toList), 0)] := by
  unfold Sto.under
  rw [under_q, if_neg (by simp [ByteArray.toList_eq])]
  show okRows (rngM [2, 113, 0, 0] [2, 113, 0, 1] (m2 C s.data.toList)) = _
  rw [rng_q]; rfl
theorem things_thg (s : ByteArray) : thingsQ [((qkL, s.data.toList), 0)] = thg s := by
  unfold thg
  rw [thingsQ, qgot_q]
  rfl

noncomputable def c3a : CC := subC c3 [1, 1, 1, 1, 1, 1, 1, 1, 1, 1]
theorem c3_s : c3 = .seq (subC c3 [0]) (.seq (subC c3 [1, 0]) (.seq (subC c3 [1, 1, 0]) (.seq (subC c3 [1, 1, 1, 0]) (.seq (subC c3 [1, 1, 1, 1, 0])
  (.seq (subC c3 [1, 1, 1, 1, 1, 0]) (.seq (subC c3 [1, 1, 1, 1, 1, 1, 0]) (.seq (subC c3 [1, 1, 1, 1, 1, 1, 1, 0]) (.seq (subC c3 [1, 1, 1, 1, 1, 1, 1, 1, 0]) (.seq (subC c3 [1, 1, 1, 1, 1, 1, 1, 1, 1, 0]) c3a))))))))) := rfl

theorem broken_tail (bytes : ByteArray) (m : Int) (sb mb n gb : Nat) (h0 : 0 ≠ mb) (C : List UInt8) (ρ : Env) (w0 w : World) (K : Value → World → Prop) (hs : bytes.size ≤ 200) (hC : C.length ≤ 200) (hn : n ≤ 3)
    (hg : Gl m w) (hm0 : Mod (fun _ => False) w0 w) (hmb : w0.heap.size ≤ mb) (hgb0 : w0.heap.size ≤ gb) (hgb1 : 0 < gb) (hsg : gb ≠ sb) (hmg : gb ≠ mb) (hAt : (shelf sb mb h0).At (n, m2 C bytes.data.toList) w) (hgb : w.heap[gb]? = some (.cells #[.int .i64 0] 23 (0, 0)))
    (r0 : ρ 0 = .string bytes) (r7 : ρ 7 = ptr sb) (r9 : ρ 9 = .int .i64 (qread aB bytes).2) (r10 : ρ 10 = .int .u64 (nextR bytes).1) (r11 : ρ 11 = .int .i64 (nextR bytes).2) (r12 : ρ 12 = .bool (wholeB bytes)) (r13 : ρ 13 = ptr gb)
    (h : ∀ w', Mod (fun _ => False) w0 w' → K (.bool true) w') :
    vc Proofs.Tryz.prog none 120 c3a (endQ Proofs.Tryz.prog [RV.tmp 2] K) ρ [] w := by
  unfold c3a
  have hpure := pure_shelf sb mb h0 (n, m2 C bytes.data.toList) (show 2 * 16 ≤ 140737488355328 by decide)
  have hund := things_two sb mb h0 n C bytes
  have hvr : ∀ r ∈ (shelf sb mb h0).under (n, m2 C bytes.data.toList) ⟨#[113]⟩ [], r.1.2.length < 2 ^ 60 := by
    rw [hund]
    intro r hr
    have hb : bytes.data.toList.length ≤ 200 := hs
    rw [List.mem_singleton.1 hr]
    show bytes.data.toList.length < _; omega
  simp only [subC, c3, vc_seq, vc_ops, vcOps_cons, goL_apply, upd_same, updO_some, ev_tmp, insVc, List.map_cons, List.map_nil, r7]
  refine allQueues_c (shelf sb mb h0) (n, m2 C bytes.data.toList) hpure m w _ hvr ?_
  rw [hund, things_thg]
  intro w2 gf cap hm2 it
  have hg2 := hm2.keep hgb id
  have hA2 := (shelf sb mb h0).keep0 hAt hm2
  have hG2 := hg.mod hm2 id
  have hl := lt_of_get hg2
  have hl0 := lt_of_get hgb
  have hone : ∃ v, quV (thg bytes) = [[v, .int .i64 (qread aB bytes).2]] := by
    unfold thg
    by_cases hq : (qread aB bytes).2 ≠ 0
    · rw [if_pos hq]; exact ⟨_, rfl⟩
    · rw [if_neg hq]
      have hq' : (qread aB bytes).2 = 0 := by simpa using hq
      rw [hq']; exact ⟨_, rfl⟩
  obtain ⟨v, hone⟩ := hone
  rw [hone] at it
  simp only [vc_block, vcOps_nil, goL_apply, thenQ_normal, updO_some]
  have hz : w.heap.size ≤ w2.heap.size := hm2.size
  have hml := World.ownsMap.lt hA2.2.1
  have hsl := lt_of_get hA2.1
  refine range_iter (by kernel_rfl) (by kernel_rfl) (by kernel_rfl) (gf := gf) (cap := cap) (by simp only [upd_same, ev_tmp]) it
    (fun i X u => Mod (fun _ => False) w0 u ∧ (shelf sb mb h0).At (n, m2 C bytes.data.toList) u ∧ Gl m u ∧ Kept w.heap.size w2 u ∧ w2.heap.size ≤ u.heap.size ∧ u.heap[gb]? = some (.cells #[.int .i64 (if i = 0 then 0 else (qread aB bytes).2)] 23 (0, 0)))
    (fun _ _ _ => False) ?_ ?_ ?_ ?_ ?_ ?_ ?_ ?_
  · intro X w' hm hsz hX
    exact ⟨(hm0.trans hm2).trans hm, (shelf sb mb h0).keep0 hA2 hm, hG2.mod hm id, (Kept.refl _ _).keep hm (fun _ _ _ => id), hm.size, hm.keep hg2 id⟩
  · rintro i X u ⟨h1, h2, h3, h4, h5, h6⟩
    exact ⟨h2, h3, h4⟩
  · rintro i X X' a b ⟨h1, h2, h3, h4, h5, h6⟩ hX ha hm hx
    have hw0 := hm0.size
    have h1s := h1.size
    refine ⟨h1.then hm (fun i hi hk => by have := hX i hk; omega), (shelf sb mb h0).keep _ _ a b h2 hm (fun k _ hk hf => ?_), h3.mod hm (fun hk => by have := hX 0 hk; omega), h4.keep hm (fun k _ hk x => by have := hX k x; omega), Nat.le_trans h5 hm.size, hm.keep h6 (fun hk => by have := hX _ hk; omega)⟩
    have := hX k hk
    rcases hf with rfl | rfl <;> omega
  · rintro c X X' a b h
    exact h.elim
  · intro i hi
    have : i = 0 := by simpa using hi
    subst this
    rfl
  · intro i hi X a hI hX ha
    have : i = 0 := by simpa using hi
    subst this
    simp only [vc_block, vc_ops, vcOps_nil, vcOps_cons, goL_apply, upd_same, upd_other, updO_some, ev_tmp, insVc, storeK, ne_eq, not_false_eq_true, Nat.reduceEqDiff, reduceCtorEq, Option.getD_some, List.getElem?_cons_zero, true_and, if_true, if_false, Nat.zero_add, updMany]
    refine ⟨Mod.refl _ _, ?_⟩
    rintro c hmc ⟨h1, h2, h3, h4, h5, h6⟩
    have hl6 := lt_of_get h6
    simp only [vcOps_nil, goL_apply, blockQ_normal, updO_none, storeO_cells, isPlain, Nat.reduceLT, Nat.reduceLeDiff, reduceCtorEq, List.size_toArray, List.length_cons, List.length_nil, List.setIfInBounds_toArray, List.set_cons_zero, true_and, and_true, and_self, Nat.zero_add, decide_true, decide_false, Bool.and_false, size_set, get_set_same, Nat.lt_add_one, r13, h6, hl6]
    have hm' : Mod (fun k => k = gb) c (Vc.set c gb (.cells #[.int .i64 (qread aB bytes).2] 23 (0, 0))) := (Mod.refl _ _).set (.inr rfl)
    have hcs := hmc.size
    refine ⟨⟨Nat.le_refl _, fun k hk => ?_⟩, .inl ⟨h1.then hm' (fun i hi hk => by omega), (shelf sb mb h0).keep _ _ c _ h2 hm' (fun k _ hk hf => ?_), h3.mod hm' (fun hk => by omega), h4.keep hm' (fun k hk _ hk' => by omega), h5⟩⟩
    · have := hX k hk
      exact hm'.get k (by omega) (by omega)
    · rcases hf with rfl | rfl <;> omega
  · rintro X u ⟨h1, h2, h3, h4, h5, h6⟩ ⟨a1, a2, a3⟩
    simp only [vc_seq, vc_ops, vcOps_cons, goL_apply, thenQ_normal, blockQ_normal, upd_same, upd_other, updO_some, ev_tmp, ev_const, insVc, buildK, fillL, Value.cells, ne_eq, not_false_eq_true, Nat.reduceEqDiff, Nat.reduceAdd, Nat.reduceLeDiff, List.map_cons, List.map_nil, List.size_toArray, List.length_cons, List.length_nil, List.zipIdx_cons, List.zipIdx_nil, List.foldl_cons, List.foldl_nil, List.setIfInBounds_toArray, List.set_cons_zero, List.toList_toArray, and_self, if_true, Nat.zero_add, r7]
    have hvd : ∀ k, ((shelf sb mb h0).get (n, m2 C bytes.data.toList) k).1.1.size < 2 ^ 60 := by
      refine get_size _ _ _ _ _ (by decide) ?_
      intro p hp
      have hb : bytes.data.toList.length ≤ 200 := hs
      rcases List.mem_cons.1 hp with rfl | hp
      · show C.length < _; omega
      · rcases List.mem_cons.1 hp with rfl | hp
        · show bytes.data.toList.length < _; omega
        · cases hp
    have hfit : n < maxLen := Nat.lt_of_le_of_lt hn (by decide)
    refine declare_c (shelf sb mb h0) (n, m2 C bytes.data.toList) qa m u _ h2 h3 (by decide) ⟨by decide, by decide, by decide, by decide⟩ (by decide) hvd (by rw [find_state]; exact hvd) (by rw [find_state]; exact hfit) (by rw [find_state, find_state]; exact hfit) ?_
    rw [declare_two]
    intro w5 hm5 hA5
    have hno : ∀ k, k ≠ mb → ¬ (shelf sb mb h0).own k := fun k hk x => hk x
    have g5 := hm5.keep h6 (hno _ hmg)
    have d5 := hm5.keep a1 (hno _ (by omega))
    have hm05 : Mod (fun _ => False) w0 w5 := h1.then hm5 (fun i hi hk => by have hk' : i = mb := hk; omega)
    have l5 := lt_of_get d5
    have hsz := hm05.size
    have hw0 := hm0.size
    simp only [vc_seq, vc_cond, vc_ops, vcOps_nil, vcOps_cons, goL_apply, thenQ_normal, upd_same, upd_other, updO_some, ev_tmp, ev_const, insVc, loadV_some, iopK, iopV, ne_eq, not_false_eq_true, Nat.reduceEqDiff, reduceCtorEq, true_and, or_false, r9]
    refine condP_split ?_ ?_
    · intro hq
      have hq' : (qread aB bytes).2 = 0 := by simpa using hq
      have hbig := qread_size hq'
      have hw : wholeB bytes = false := by
        unfold wholeB
        rw [show decide (bytes.size = 9) = false from decide_eq_false (by omega)]; rfl
      have hf : (nextR bytes).2 ≠ 0 := by
        intro hx
        have := (next_good bytes).1.1 hx
        rw [hw] at this
        cases this.1
      have hf' : ((nextR bytes).2 != 0) = true := by simpa using hf
      have e00 : ((0 : Int) == 0) = true := rfl
      have e22 : ((22 : Int) == 22) = true := rfl
      simp only [vc_seq, vc_ret, vc_ops, vcOps_nil, vcOps_cons, vcOps_gate, gateK_true, gate_true, goL_apply, thenQ_normal, thenQ_ret, upd_same, upd_other, updO_some, ev_tmp, ev_const, endQ_ret, endK, resK, packed, insVc, pickK, load1K, loadO_cells, loadV_some, iopK, iopV, notK, ne_eq, not_false_eq_true, Nat.reduceEqDiff, reduceCtorEq, Bool.not_false, List.getElem?_cons_zero, List.getElem?_toArray, List.length_cons, List.length_nil, List.nil_append, true_and, or_false, if_true, if_false, Nat.zero_add, hq', r11, r12, r13, g5, hw, hf', e00, e22, markO, d5]
      exact h _ (hm05.set (.inl (by omega)))
    · intro hq
      have hq' : (qread aB bytes).2 ≠ 0 := by simpa using hq
      rw [if_neg hq']
      simp only [vc_skip, vc_seq, vc_ops, vcOps_cons, goL_apply, thenQ_normal, upd_same, upd_other, updO_some, ev_tmp, insVc, ne_eq, not_false_eq_true, reduceCtorEq, List.map_cons, List.map_nil, r0]
      refine over_c bytes w5 _ ?_
      have hm6 : Mod (fun _ => False) w5 (w5.alloc (.cells #[.string bytes, .int .i64 0] 145)) := (Mod.refl _ _).alloc _
      have hb6 : IsRd (w5.alloc (.cells #[.string bytes, .int .i64 0] 145)) w5.heap.size (bytes, 0) := get_alloc_new _ _
      revert hm6 hb6
      generalize w5.alloc (.cells #[.string bytes, .int .i64 0] 145) = w6
      intro hm6 hb6
      simp only [vc_seq, vc_ops, vcOps_nil, vcOps_cons, goL_apply, thenQ_normal, upd_same, updO_some, ev_tmp, ev_const, insVc, List.map_cons, List.map_nil]
      refine take_c w5.heap.size (bytes, 0) 1 w6 _ hb6 ?_
      intro w7 hm7 hr7
      simp only [vc_seq, vc_ops, vcOps_nil, vcOps_cons, goL_apply, thenQ_normal, upd_same, upd_other, updO_some, ev_tmp, insVc, ne_eq, not_false_eq_true, Nat.reduceEqDiff, List.map_cons, List.map_nil]
      have htk : (take (bytes, 0) 1).2.1.size ≤ bytes.size := take_size (bytes, 0) 1
      refine eight_c w5.heap.size (take (bytes, 0) 1).2 w7 _ hr7 (by omega) ?_
      intro w8 hm8 hr8
      have l6 := lt_of_get g5
      have hm68 := hm7.trans hm8
      have g8 := hm68.keep (hm6.keep g5 id) (by omega)
      have d8 := hm68.keep (hm6.keep d5 id) (by omega)
      have hm08 : Mod (fun _ => False) w0 w8 := (hm05.trans hm6).then hm68 (fun i hi hk => by omega)
      have fin : K (.bool true) (Vc.set w8 w2.heap.size (.deferred none)) := h _ (hm08.set (.inl (by omega)))
      have he8 : (number (take (bytes, 0) 1).2 8).1 = eightR bytes := rfl
      have heq : ((qread aB bytes).2 == (qread aB bytes).2) = true := by simp
      have hlt : eightR bytes < 2 ^ 64 := num_lt _
      obtain ⟨hn1, hn2⟩ := next_good bytes
      have e01 : ((1 : Int) == 0) = false := rfl
      have e10 : ¬ ((1 : Nat) = 0) := by decide
      have ett : (true == true) = true := rfl
      have eff : (false == false) = true := rfl
      rw [he8]
      by_cases hf : (nextR bytes).2 = 0
      · obtain ⟨hw, hk⟩ := hn1.1 hf
        have hv' := hn2 hf
        have hwr : IntKind.u64.wrap ((eightR bytes : Int) + 1) = ((eightR bytes + 1 : Nat) : Int) := by rw [IntKind.wrap_u64]; omega
        have hlt' : ((eightR bytes : Nat) : Int) < 18446744073709551615 := by omega
        have hee : (((eightR bytes + 1 : Nat) : Int) == ((eightR bytes + 1 : Nat) : Int)) = true := by simp
        have hf1 : ((nextR bytes).2 == 0) = true := by simpa using hf
        have hf2 : ((nextR bytes).2 != 0) = false := by simpa using hf
        simp only [vc_seq, vc_ret, vc_ops, vcOps_nil, vcOps_cons, vcOps_gate, gateK_true, gate_true, gate_false, goL_apply, thenQ_normal, upd_same, upd_other, updO_some, ev_tmp, ev_const, endQ_ret, endK, resK, packed, insVc, pickK, load1K, loadO_cells, loadV_some, iopK, iopV, bopK, ne_eq, not_false_eq_true, Nat.reduceEqDiff, reduceCtorEq, Bool.not_false, List.getElem?_cons_zero, List.getElem?_toArray, List.length_cons, List.length_nil, List.nil_append, true_and, or_false, if_true, if_false, Bool.false_eq_true, Nat.zero_add, decide_true, r9, r10, r11, r12, r13, g8, heq, hf1, hf2, hw, hlt', hv', hwr, hee, e10, ett, markO, d8]
        exact fin
      · have hf1 : ((nextR bytes).2 == 0) = false := by simpa using hf
        have hf2 : ((nextR bytes).2 != 0) = true := by simpa using hf
        cases hw : wholeB bytes with
        | true =>
          have hlt' : ¬ ((eightR bytes : Nat) : Int) < 18446744073709551615 := by
            intro hx
            exact hf (hn1.2 ⟨hw, by omega⟩)
          simp only [vc_seq, vc_ret, vc_ops, vcOps_nil, vcOps_cons, vcOps_gate, gateK_true, gateK_false, gate_true, gate_false, goL_apply, thenQ_normal, upd_same, upd_other, updO_some, ev_tmp, ev_const, endQ_ret, endK, resK, packed, insVc, pickK, load1K, loadO_cells, loadV_some, iopK, iopV, bopK, ne_eq, not_false_eq_true, Nat.reduceEqDiff, reduceCtorEq, Bool.not_true, List.getElem?_cons_zero, List.getElem?_toArray, List.length_cons, List.length_nil, List.nil_append, true_and, or_false, if_true, if_false, Bool.false_eq_true, Nat.zero_add, decide_false, r9, r11, r12, r13, g8, heq, hf1, hf2, hw, hlt', e10, eff, markO, d8]
          exact fin
        | false =>
          simp only [vc_seq, vc_ret, vc_ops, vcOps_nil, vcOps_cons, vcOps_gate, gateK_true, gateK_false, gate_true, gate_false, goL_apply, thenQ_normal, upd_same, upd_other, updO_some, ev_tmp, ev_const, endQ_ret, endK, resK, packed, insVc, pickK, load1K, loadO_cells, loadV_some, iopK, iopV, bopK, ne_eq, not_false_eq_true, Nat.reduceEqDiff, reduceCtorEq, Bool.not_true, List.getElem?_cons_zero, List.getElem?_toArray, List.length_cons, List.length_nil, List.nil_append, true_and, or_false, if_true, if_false, Bool.false_eq_true, Nat.zero_add, r9, r11, r12, r13, g8, heq, hf1, hf2, hw, e10, eff, markO, d8]
          exact fin
  · rintro c X u h
    exact h.elim

theorem broken_c (bytes : ByteArray) (m : Int) (w : World) (K : Value → World → Prop) (hg : Gl m w) (h : ∀ w', Mod (fun _ => False) w w' → K (.bool true) w') : Ok Proofs.Tryz.prog 3 #[.string bytes] w K := by
  refine F3.enter (args := [.string bytes]) (by simp) ?_
  rw [c3_s]
  unfold r3
  have h0w : 0 < w.heap.size := World.block_lt_of_cell? w _ hg
  simp only [subC, c3, vc_seq, vc_ops, vcOps_nil, vcOps_cons, goL_apply, thenQ_normal, updO_some, ev_const, insVc, List.map_nil]
  refine awake_c m w _ hg ?_
  intro w1 hm1
  simp only [vc_skip, vc_seq, vc_cond, vc_ops, vcOps_nil, vcOps_cons, goL_apply, thenQ_normal, condP_false, upd_same, upd_other, updO_some, ev_tmp, ev_const, initE_at, insVc, loadV_some, iopK, iopV, notK, lenSK, ne_eq, not_false_eq_true, reduceCtorEq, Bool.not_true, Option.getD_some, List.getElem?_cons_zero, true_and, or_false]
  refine condP_split ?_ ?_
  · intro hbig
    simp only [vc_seq, vc_ret, vc_ops, vcOps_nil, vcOps_cons, goL_apply, thenQ_normal, thenQ_ret, upd_same, updO_some, ev_const, endQ_ret, endK, resK, packed, insVc, List.nil_append]
    exact h w1 hm1
  intro hsm
  have hs : bytes.size ≤ 200 := by have := of_decide_eq_false hsm; omega
  simp only [vc_skip, vc_seq, vc_ops, vcOps_cons, thenQ_normal, ev_const, insVc, List.map_cons, List.map_nil]
  refine queue_c aB m w1 _ (hg.mod hm1 id) (by decide) ?_
  intro w2 hm2
  have hm02 := hm1.trans hm2
  simp only [vc_seq, vc_ops, vcOps_nil, vcOps_cons, goL_apply, thenQ_normal, upd_same, upd_other, updO_some, ev_tmp, ev_const, insVc, loadV_some, extK, ne_eq, not_false_eq_true, Nat.reduceEqDiff, List.map_cons, List.map_nil, List.getElem?_cons_zero, List.getElem?_cons_succ, List.getElem?_toArray, queueK_a]
  refine counter_c aB m w2 _ (hg.mod hm02 id) (by decide) ?_
  intro w3 hm3
  have hm03 := hm02.trans hm3
  simp only [vc_seq, vc_ops, vcOps_nil, vcOps_cons, goL_apply, thenQ_normal, upd_same, upd_other, updO_some, ev_tmp, initE_at, insVc, loadV_some, extK, buildK, fillL, buildSK, Value.cells, ne_eq, not_false_eq_true, Nat.reduceEqDiff, Nat.reduceAdd, Nat.reduceLeDiff, reduceCtorEq, Option.getD_some, List.map_cons, List.map_nil, List.getElem?_cons_zero, List.getElem?_cons_succ, List.getElem?_toArray, List.size_toArray, List.length_cons, List.length_nil, List.zipIdx_cons, List.zipIdx_nil, List.foldl_cons, List.foldl_nil, List.setIfInBounds_toArray, List.set_cons_zero, List.set_cons_succ, List.toList_toArray, and_self, if_true, Nat.zero_add, Nat.add_zero, counterK_a]
  refine callK_gen ?_
  intro w4 hw4
  have hm4 : Mod (fun _ => False) w3 w4 := by rw [hw4]; exact (Mod.refl _ _).alloc _
  have e4 : w4.heap[w3.heap.size]? = some (.cells #[.string ⟨qkL.toArray⟩, .string bytes, .string ⟨ckL.toArray⟩, .string bytes] 29 (0, 0)) := by rw [hw4]; exact get_alloc_new _ _
  clear hw4
  have hm04 := hm03.trans hm4
  refine new_c [(⟨qkL.toArray⟩, bytes), (⟨ckL.toArray⟩, bytes)] _ w4 _ (.inr ⟨_, 0, 2, _, rfl, e4, rfl⟩) (by simp) ?_ ?_
  · intro p hp
    have hmx : (200 : Nat) ≤ maxLen := by decide
    rcases List.mem_cons.1 hp with rfl | hp
    · exact ⟨Nat.le_trans (show (8 : Nat) ≤ 200 by decide) hmx, Nat.le_trans hs hmx⟩
    · rcases List.mem_cons.1 hp with rfl | hp
      · exact ⟨Nat.le_trans (show (8 : Nat) ≤ 200 by decide) hmx, Nat.le_trans hs hmx⟩
      · cases hp
  intro w5 sb mb hm5 hsb hmb hs5
  have hm05 := hm04.trans hm5
  have z4 := hm04.size
  have h0 : 0 ≠ mb := by omega
  have hs5' : (shelf sb mb h0).At (2, m2 bytes.data.toList bytes.data.toList) w5 := hs5
  have hvs : ∀ (C : List UInt8) (N : Nat), C.length ≤ 200 → ∀ p ∈ m2 C bytes.data.toList, p.2.length < 2 ^ 60 := by
    intro C N hC p hp
    have hb : bytes.data.toList.length ≤ 200 := hs
    rcases List.mem_cons.1 hp with rfl | hp
    · show C.length < _; omega
    · rcases List.mem_cons.1 hp with rfl | hp
      · show bytes.data.toList.length < _; omega
      · cases hp
  simp only [vc_seq, vc_ops, vcOps_nil, vcOps_cons, goL_apply, thenQ_normal, upd_same, updO_some, ev_tmp, ev_const, insVc, List.map_cons, List.map_nil]
  refine find_c (shelf sb mb h0) (2, m2 bytes.data.toList bytes.data.toList) aB m w5 _ hs5' (hg.mod hm05 id) (by decide) (get_size _ _ _ _ _ (by decide) (hvs _ 0 hs) _) ?_
  intro w6 hm6 hs6
  rw [find_two] at hs6
  have hm06 : Mod (fun _ => False) w w6 := hm05.then hm6 (fun i hi hk => by have hk' : i = mb := hk; omega)
  simp only [vc_seq, vc_ops, vcOps_nil, vcOps_cons, goL_apply, thenQ_normal, upd_same, upd_other, updO_some, updO_none, ev_tmp, ev_const, insVc, loadV_some, storeNK, storeNO_cells, setMany, extK, isPlain, Value.cells, ne_eq, not_false_eq_true, Nat.reduceEqDiff, Nat.reduceAdd, Nat.reduceLeDiff, List.map_cons, List.map_nil, List.getElem?_cons_zero, List.getElem?_cons_succ, List.getElem?_toArray, List.size_toArray, List.length_cons, List.length_nil, List.setIfInBounds_toArray, List.set_cons_zero, List.set_cons_succ, true_and, and_self, if_true, Nat.zero_add, Bool.and_true, List.all_toArray', List.all_cons, List.all_nil, get_alloc, Nat.reduceAdd, Nat.reduceEqDiff, find_two, Qu.val, Qu.cells]
  refine callK_gen ?_
  intro w7 hw7
  have hm7 : Mod (fun _ => False) w6 w7 := by rw [hw7]; exact ((Mod.refl _ _).alloc _).set (.inl (Nat.le_refl _))
  clear hw7
  have hm07 := hm06.trans hm7
  have hs7 := (shelf sb mb h0).keep0 hs6 hm7
  refine next_c (shelf sb mb h0) (2, m2 bytes.data.toList bytes.data.toList) aB m w7 _ hs7 (hg.mod hm07 id) (by decide) (get_size _ _ _ _ _ (by decide) (hvs _ 0 hs) _) (show (2 : Nat) < maxLen by decide) ?_
  obtain ⟨C, n', hn', hC, hnext⟩ := next_two sb mb h0 2 bytes hs
  rw [hnext]
  intro w8 hm8 hs8
  have hm08 : Mod (fun _ => False) w w8 := hm07.then hm8 (fun i hi hk => by have hk' : i = mb := hk; omega)
  simp only [vc_seq, vc_ops, vcOps_nil, vcOps_cons, vcOps_gate, gate_true, goL_apply, thenQ_normal, upd_same, upd_other, updO_some, ev_tmp, ev_const, initE_at, insVc, loadV_some, iopK, iopV, extK, lenSK, ne_eq, not_false_eq_true, Nat.reduceEqDiff, reduceCtorEq, Option.getD_some, List.getElem?_cons_zero, List.getElem?_cons_succ, List.getElem?_toArray, true_and, or_false]
  have htail : ∀ (ρ : Env), ρ 0 = .string bytes → ρ 7 = ptr sb → ρ 9 = .int .i64 (qread aB bytes).2 → ρ 10 = .int .u64 (nextR bytes).1 → ρ 11 = .int .i64 (nextR bytes).2 → ρ 12 = .bool (wholeB bytes) → ρ 13 = ptr w8.heap.size →
      vc Proofs.Tryz.prog none 120 c3a (endQ Proofs.Tryz.prog [RV.tmp 2] K) ρ [] (w8.alloc (.cells #[.int .i64 0] 23)) := by
    intro ρ r0 r7 r9 r10 r11 r12 r13
    have hm9 : Mod (fun _ => False) w8 (w8.alloc (.cells #[.int .i64 0] 23)) := (Mod.refl _ _).alloc _
    have z8 := hm08.size
    have l1 := World.ownsMap.lt hs8.2.1
    have l2 := lt_of_get hs8.1
    exact broken_tail bytes m sb mb n' w8.heap.size h0 C ρ w _ K hs hC hn' (hg.mod (hm08.trans hm9) id) (hm08.trans hm9) (by omega) z8 (by omega) (by omega) (by omega) ((shelf sb mb h0).keep0 hs8 hm9) (get_alloc_new _ _) r0 r7 r9 r10 r11 r12 r13 h
  by_cases h9 : bytes.size = 9
  · have hd : 0 < bytes.data.size := by have : bytes.data.size = 9 := h9; omega
    have hb0 : bytes.data[0]? = some ((bytes.data[0]?).getD 0) := by rw [Array.getElem?_eq_getElem hd]; rfl
    have e9 : (((9 : Nat) : Int) == 9) = true := rfl
    have hw : wholeB bytes = ((((bytes.data[0]?).getD 0).toNat : Int) == 1) := by
      unfold wholeB first
      rw [show decide (bytes.size = 9) = true from decide_eq_true h9, Bool.true_and]
      by_cases hx : ((bytes.data[0]?).getD 0).toNat = 1
      · rw [hx]; rfl
      · rw [decide_eq_false hx]
        symm
        rw [beq_eq_false_iff_ne]
        omega
    have e00 : (0 : Int) ≤ 0 := Int.le_refl _
    simp only [vcOps_gate, gateK_true, gate_true, goL_apply, upd_same, upd_other, updO_some, ev_tmp, ev_const, initE_at, insVc, sidxK, ne_eq, not_false_eq_true, Nat.reduceEqDiff, reduceCtorEq, Option.getD_some, List.getElem?_cons_zero, true_and, Int.reduceToNat, h9, e9, e00]
    rw [hb0]
    simp only [vc_seq, vc_ops, vcOps_nil, vcOps_cons, vcOps_gate, gateK_true, gate_true, goL_apply, thenQ_normal, upd_same, upd_other, updO_some, ev_tmp, ev_const, insVc, pickK, loadV_some, iopK, iopV, Value.cells, ne_eq, not_false_eq_true, Nat.reduceEqDiff, reduceCtorEq, Option.map_some, true_and, or_false, if_true]
    refine htail _ ?_ ?_ ?_ ?_ ?_ ?_ ?_ <;> simp only [upd_same, upd_other, initE_at, ne_eq, not_false_eq_true, Nat.reduceEqDiff, reduceCtorEq, Option.getD_some, List.getElem?_cons_zero, hw]
  · have e9 : ((bytes.size : Int) == 9) = false := by rw [beq_eq_false_iff_ne]; omega
    have hw : wholeB bytes = false := by
      unfold wholeB
      rw [show decide (bytes.size = 9) = false from decide_eq_false h9]; rfl
    simp only [vc_seq, vc_ops, vcOps_nil, vcOps_cons, vcOps_gate, gateK_false, gate_true, goL_apply, thenQ_normal, upd_same, upd_other, updO_some, ev_tmp, ev_const, insVc, pickK, Value.cells, ne_eq, not_false_eq_true, Nat.reduceEqDiff, if_false, Bool.false_eq_true, e9]
    refine htail _ ?_ ?_ ?_ ?_ ?_ ?_ ?_ <;> simp only [upd_same, upd_other, initE_at, ne_eq, not_false_eq_true, Nat.reduceEqDiff, reduceCtorEq, Option.getD_some, List.getElem?_cons_zero, hw]

end Go.Oct
