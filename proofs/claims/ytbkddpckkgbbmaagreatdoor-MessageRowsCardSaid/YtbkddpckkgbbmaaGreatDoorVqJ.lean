import Derived.Test.YtbkddpckkgbbmaaGreatDoorVqG
set_option linter.unusedSimpArgs false
set_option linter.unusedVariables false
set_option linter.unusedSectionVars false
set_option linter.unnecessarySimpa false
namespace Go.Oct
open Go Go.Vc Go.VrA Go.VrB Go.VrC
set_option maxRecDepth 100000

/-! ### plain: a message's keys -/

def Ms.fine (m : Ms) : Prop := m.queue.size ≤ 100 ∧ m.id < 2 ^ 64 ∧ m.expiry < 2 ^ 64 ∧ m.tries < 2 ^ 32 ∧ m.body.size ≤ 1000
def mL (q : ByteArray) (n : Nat) : List Pt := [str ⟨#[109]⟩, str q, num' n]
def tL (a : Nat) (q : ByteArray) (n : Nat) : List Pt := [str ⟨#[101]⟩, num' a, str q, num' n]
def mkey (q : ByteArray) (n : Nat) : List UInt8 := keyB (mL q n)
def tkey (a : Nat) (q : ByteArray) (n : Nat) : List UInt8 := keyB (tL a q n)

theorem str_bytes (s : ByteArray) : (str s).bytes = 2 :: (esc s.data.toList ++ [0, 0]) := Pt.bytes_str rfl
theorem num_bytes (n : Nat) : (num' n).bytes = 1 :: bigL n 8 := Pt.bytes_num rfl
theorem esc_le (q : ByteArray) : (esc q.data.toList).length ≤ 2 * q.size := esc_length _
theorem mkey_len (q : ByteArray) (n : Nat) (hq : q.size ≤ 100) : (mkey q n).length ≤ 255 := by
  have := esc_le q
  have e : (esc (⟨#[109]⟩ : ByteArray).data.toList) = [109] := rfl
  simp only [mkey, mL, keyB_cons, str_bytes, num_bytes, List.length_append, List.length_cons, List.length_nil, bigL_length, e]
  simp only [keyB, List.flatMap_nil, List.length_nil]
  omega
theorem tkey_len (a : Nat) (q : ByteArray) (n : Nat) (hq : q.size ≤ 100) : (tkey a q n).length ≤ 255 := by
  have := esc_le q
  have e : (esc (⟨#[101]⟩ : ByteArray).data.toList) = [101] := rfl
  simp only [tkey, tL, keyB_cons, str_bytes, num_bytes, List.length_append, List.length_cons, List.length_nil, bigL_length, e]
  simp only [keyB, List.flatMap_nil, List.length_nil]
  omega
theorem messageK_eq (q : ByteArray) (n : Nat) (hq : q.size ≤ 100) : messageK q n = (⟨(mkey q n).toArray⟩, 0) := by
  unfold messageK
  rw [keyL_nil]
  exact if_pos (mkey_len q n hq)
theorem termK_eq (a : Nat) (q : ByteArray) (n : Nat) (hq : q.size ≤ 100) : termK a q n = (⟨(tkey a q n).toArray⟩, 0) := by
  unfold termK
  rw [keyL_nil]
  exact if_pos (tkey_len a q n hq)
theorem keysR_eq (m : Ms) (h : m.fine) : keysR m = (⟨(mkey m.queue m.id).toArray⟩, if m.expiry = 0 then e0 else ⟨(tkey m.expiry m.queue m.id).toArray⟩, 0) := by
  unfold keysR
  rw [messageK_eq _ _ h.1, termK_eq _ _ _ h.1]
  by_cases h0 : m.expiry = 0
  · simp [h0]
  · simp [h0]

theorem str_ok (s : ByteArray) : (str s).ok := ⟨by simp [str], fun _ => rfl, fun h => by cases h⟩
theorem num_ok (n : Nat) (h : n < 2 ^ 64) : (num' n).ok := ⟨h, (fun h => by cases h), fun _ => rfl⟩
theorem mL_ok (q : ByteArray) (n : Nat) (hn : n < 2 ^ 64) : ∀ p ∈ mL q n, p.ok := by
  intro p hp
  simp only [mL, List.mem_cons, List.not_mem_nil, or_false] at hp
  rcases hp with rfl | rfl | rfl
  · exact str_ok _
  · exact str_ok _
  · exact num_ok _ hn
theorem tL_ok (a : Nat) (q : ByteArray) (n : Nat) (ha : a < 2 ^ 64) (hn : n < 2 ^ 64) : ∀ p ∈ tL a q n, p.ok := by
  intro p hp
  simp only [tL, List.mem_cons, List.not_mem_nil, or_false] at hp
  rcases hp with rfl | rfl | rfl | rfl
  · exact str_ok _
  · exact num_ok _ ha
  · exact str_ok _
  · exact num_ok _ hn
theorem keyB_inj {l l' : List Pt} (h : ∀ p ∈ l, p.ok) (h' : ∀ p ∈ l', p.ok) (hl : (keyB l).length ≤ 255) (e : keyB l = keyB l') : l = l' := by
  have h1 := partsR_key l h hl
  have h2 := partsR_key l' h' (e ▸ hl)
  rw [e, h2] at h1
  exact (congrArg Prod.fst h1).symm
theorem mkey_inj {q q' : ByteArray} {n n' : Nat} (hq : q.size ≤ 100) (hn : n < 2 ^ 64) (hn' : n' < 2 ^ 64) (e : mkey q n = mkey q' n') : q = q' ∧ n = n' := by
  have := keyB_inj (mL_ok q n hn) (mL_ok q' n' hn') (mkey_len q n hq) e
  simp only [mL, str, num', List.cons.injEq, Pt.mk.injEq, true_and, and_true] at this
  exact ⟨this.1, this.2⟩
theorem tkey_inj {a a' : Nat} {q q' : ByteArray} {n n' : Nat} (hq : q.size ≤ 100) (ha : a < 2 ^ 64) (ha' : a' < 2 ^ 64) (hn : n < 2 ^ 64) (hn' : n' < 2 ^ 64) (e : tkey a q n = tkey a' q' n') : a = a' ∧ q = q' ∧ n = n' := by
  have := keyB_inj (tL_ok a q n ha hn) (tL_ok a' q' n' ha' hn') (tkey_len a q n hq) e
  simp only [tL, str, num', List.cons.injEq, Pt.mk.injEq, true_and, and_true] at this
  exact ⟨this.1, this.2.1, this.2.2⟩
theorem mkey_eq (q : ByteArray) (n : Nat) : mkey q n = 2 :: 109 :: 0 :: 0 :: keyB [str q, num' n] := by
  show (str ⟨#[109]⟩).bytes ++ keyB [str q, num' n] = _
  rw [str_bytes]; rfl
theorem tkey_eq (a : Nat) (q : ByteArray) (n : Nat) : tkey a q n = 2 :: 101 :: 0 :: 0 :: ((num' a).bytes ++ keyB [str q, num' n]) := by
  show (str ⟨#[101]⟩).bytes ++ keyB [num' a, str q, num' n] = _
  rw [str_bytes]; rfl
theorem mkey_ne_tkey (q : ByteArray) (n : Nat) (a : Nat) (q' : ByteArray) (n' : Nat) : mkey q n ≠ tkey a q' n' := by
  rw [mkey_eq, tkey_eq]
  intro h
  have := List.cons.inj (List.cons.inj h).2
  exact absurd this.1 (by decide)

/-! in order -/
def ltM (a b : Ms) : Prop := a.queue.data.toList < b.queue.data.toList ∨ (a.queue = b.queue ∧ a.id < b.id)
def ltT (a b : Ms) : Prop := a.expiry < b.expiry ∨ (a.expiry = b.expiry ∧ ltM a b)
theorem q_ext {a b : ByteArray} (h : a.data.toList = b.data.toList) : a = b := ByteArray.ext (Array.ext' h)
theorem aheadR_iff (a b : Ms) : aheadR a b = true ↔ ltM a b := by
  unfold aheadR ltM
  rw [lessR_cons]
  by_cases hq : a.queue = b.queue
  · rw [if_neg (by simp [str]), if_neg (by simp [str, hq]), if_neg (by simp [str]), lessR_cons]
    rw [if_neg (by simp [num']), if_neg (by simp [num'])]
    by_cases hn : a.id = b.id
    · rw [if_neg (by simp [num', hn])]
      have : lessR [] [] = false := rfl
      rw [this]
      simp only [hq, hn, Nat.lt_irrefl, and_false, or_false]
      simp
    · rw [if_pos (by simp [num', hn])]
      show decide (a.id < b.id) = true ↔ _
      rw [decide_eq_true_iff]
      constructor
      · intro h; exact .inr ⟨hq, h⟩
      · rintro (h | ⟨_, h⟩)
        · rw [hq] at h; exact absurd h (List.lt_irrefl _)
        · exact h
  · rw [if_neg (by simp [str]), if_pos (by simp [str, hq])]
    show decide (a.queue.data.toList < b.queue.data.toList) = true ↔ _
    rw [decide_eq_true_iff]
    constructor
    · exact .inl
    · rintro (h | ⟨h, _⟩)
      · exact h
      · exact absurd h hq
theorem rest_lt (q q' : ByteArray) (n n' : Nat) (hn : n < 2 ^ 64) (hn' : n' < 2 ^ 64) : keyB [str q, num' n] < keyB [str q', num' n'] ↔ (q.data.toList < q'.data.toList ∨ (q = q' ∧ n < n')) := by
  have e1 : ∀ (q : ByteArray) (n : Nat), keyB [str q, num' n] = (str q).bytes ++ ((num' n).bytes ++ keyB []) := fun _ _ => rfl
  rw [e1, e1, part_lt (str_ok q) (str_ok q'), part_lt (num_ok n hn) (num_ok n' hn')]
  have h1 : ltPt (str q) (str q') ↔ q.data.toList < q'.data.toList := by simp [ltPt, str]
  have h2 : ltPt (num' n) (num' n') ↔ n < n' := by simp [ltPt, num']
  have h3 : str q = str q' ↔ q = q' := by simp [str]
  have h4 : ¬ (keyB [] < keyB []) := List.lt_irrefl _
  rw [h1, h2, h3]
  simp only [h4, and_false, or_false]
theorem cons_lt_same {c : UInt8} {a b : List UInt8} : c :: a < c :: b ↔ a < b := by
  rw [List.cons_lt_cons_iff]
  simp
theorem tkey_lt (a b : Ms) (ha : a.expiry < 2 ^ 64) (hb : b.expiry < 2 ^ 64) (ha' : a.id < 2 ^ 64) (hb' : b.id < 2 ^ 64) : tkey a.expiry a.queue a.id < tkey b.expiry b.queue b.id ↔ ltT a b := by
  rw [tkey_eq, tkey_eq, cons_lt_same, cons_lt_same, cons_lt_same, cons_lt_same, part_lt (num_ok _ ha) (num_ok _ hb), rest_lt _ _ _ _ ha' hb']
  have h2 : ltPt (num' a.expiry) (num' b.expiry) ↔ a.expiry < b.expiry := by simp [ltPt, num']
  have h3 : num' a.expiry = num' b.expiry ↔ a.expiry = b.expiry := by simp [num']
  rw [h2, h3]; rfl
theorem tkey_lt_bound (a : Nat) (q : ByteArray) (n b : Nat) (ha : a < 2 ^ 64) (hb : b < 2 ^ 64) : tkey a q n < 2 :: 101 :: 0 :: 0 :: (num' b).bytes ↔ a < b := by
  have e : (num' b).bytes = (num' b).bytes ++ [] := (List.append_nil _).symm
  rw [tkey_eq, cons_lt_same, cons_lt_same, cons_lt_same, cons_lt_same, e, part_lt (num_ok _ ha) (num_ok _ hb)]
  have h2 : ltPt (num' a) (num' b) ↔ a < b := by simp [ltPt, num']
  have h4 : ¬ (keyB [str q, num' n] < []) := List.not_lt_nil _
  rw [h2]
  simp only [h4, and_false, or_false]

theorem ltM_irrefl (a : Ms) : ¬ ltM a a := by
  rintro (h | ⟨_, h⟩)
  · exact List.lt_irrefl _ h
  · omega
theorem ltM_trans {a b c : Ms} (h : ltM a b) (h' : ltM b c) : ltM a c := by
  unfold ltM at *
  rcases h with h | ⟨e, h⟩ <;> rcases h' with h' | ⟨e', h'⟩
  · exact .inl (List.lt_trans h h')
  · rw [← e']; exact .inl h
  · rw [e]; exact .inl h'
  · exact .inr ⟨e.trans e', by omega⟩
theorem lst_tri (a b : List UInt8) : a < b ∨ a = b ∨ b < a := by
  by_cases h : a < b
  · exact .inl h
  · by_cases h' : b < a
    · exact .inr (.inr h')
    · exact .inr (.inl (List.le_antisymm (List.not_lt.1 h') (List.not_lt.1 h)))
theorem ltM_tri (a b : Ms) : ltM a b ∨ (a.queue = b.queue ∧ a.id = b.id) ∨ ltM b a := by
  unfold ltM
  rcases lst_tri a.queue.data.toList b.queue.data.toList with h | h | h
  · exact .inl (.inl h)
  · have e := q_ext h
    rcases Nat.lt_trichotomy a.id b.id with h' | h' | h'
    · exact .inl (.inr ⟨e, h'⟩)
    · exact .inr (.inl ⟨e, h'⟩)
    · exact .inr (.inr (.inr ⟨e.symm, h'⟩))
  · exact .inr (.inr (.inl h))
theorem ltT_irrefl (a : Ms) : ¬ ltT a a := by
  rintro (h | ⟨_, h⟩)
  · omega
  · exact ltM_irrefl a h
theorem ltT_trans {a b c : Ms} (h : ltT a b) (h' : ltT b c) : ltT a c := by
  unfold ltT at *
  rcases h with h | ⟨e, h⟩ <;> rcases h' with h' | ⟨e', h'⟩
  · exact .inl (by omega)
  · exact .inl (by omega)
  · exact .inl (by omega)
  · exact .inr ⟨by omega, ltM_trans h h'⟩

/-! what is read back -/
theorem num_bigL' (k n : Nat) (h : n < 2 ^ (8 * k)) (hk : k ≤ 8) : numL (bigL n k) = n := by
  have h1 := num_bigL k n 0
  have h2 := numL_lt (bigL n k)
  unfold numL at h2 ⊢
  rw [Nat.mod_eq_of_lt h2] at h1
  have hp : 2 ^ (8 * k) ≤ 2 ^ 64 := Nat.pow_le_pow_right (by decide) (by omega)
  rw [h1, Nat.zero_mul, Nat.zero_add, Nat.mod_eq_of_lt h, Nat.mod_eq_of_lt (by omega)]
theorem number_bigL (k n : Nat) (h : n < 2 ^ (8 * k)) (hk : k ≤ 8) (b : List UInt8) : number (⟨(bigL n k ++ b).toArray⟩, 0) k = (n, (⟨b.toArray⟩, 0)) := by
  have h' := number_app (bigL n k) b
  rw [bigL_length, num_bigL' k n h hk] at h'
  exact h'
theorem mbytes_list (m : Ms) (h : m.fine) : (mbytes m).data.toList = [1] ++ (bigL m.tries 4 ++ (bigL m.expiry 8 ++ (bigL m.body.size 4 ++ m.body.data.toList))) := by
  have hb : m.body.size % 2 ^ 32 = m.body.size := Nat.mod_eq_of_lt (by have := h.2.2.2.2; omega)
  unfold mbytes mput textB
  rw [hb]
  simp only [ByteArray.data_append, Array.toList_append, big_toList, List.append_assoc]
  rfl
theorem mbytes_size (m : Ms) (h : m.fine) : (mbytes m).size ≤ 1017 := by
  have e : (mbytes m).size = (mbytes m).data.toList.length := by rw [Array.length_toList]; rfl
  rw [e, mbytes_list m h]
  simp only [List.length_append, bigL_length, List.length_cons, List.length_nil, Array.length_toList]
  have := h.2.2.2.2
  have e2 : m.body.data.size = m.body.size := rfl
  omega
theorem mread_mbytes (m : Ms) (h : m.fine) : mread m.queue m.id ⟨(mbytes m).data.toList.toArray⟩ = (m, 0) := by
  obtain ⟨h1, h2, h3, h4, h5⟩ := h
  have e1 : number (⟨([1] ++ (bigL m.tries 4 ++ (bigL m.expiry 8 ++ (bigL m.body.size 4 ++ m.body.data.toList)))).toArray⟩, 0) 1 = (1, (⟨(bigL m.tries 4 ++ (bigL m.expiry 8 ++ (bigL m.body.size 4 ++ m.body.data.toList))).toArray⟩, 0)) := number_cons 1 _
  have e2 := number_bigL 4 m.tries (by simpa using h4) (by decide) (bigL m.expiry 8 ++ (bigL m.body.size 4 ++ m.body.data.toList))
  have e3 := number_bigL 8 m.expiry (by simpa using h3) (by decide) (bigL m.body.size 4 ++ m.body.data.toList)
  have e4 := number_bigL 4 m.body.size (by omega) (by decide) m.body.data.toList
  have e5 : take (⟨m.body.data.toList.toArray⟩, 0) (m.body.size : Int) = (m.body, (⟨#[]⟩, 0)) := by
    have := take_app m.body.data.toList []
    rw [List.append_nil, Array.length_toList] at this
    exact this
  have hv : ver (⟨(mbytes m).data.toList.toArray⟩, 0) = (⟨(bigL m.tries 4 ++ (bigL m.expiry 8 ++ (bigL m.body.size 4 ++ m.body.data.toList))).toArray⟩, 0) := by
    unfold ver
    rw [mbytes_list m ⟨h1, h2, h3, h4, h5⟩, e1]
    rfl
  have ht : text (⟨(bigL m.body.size 4 ++ m.body.data.toList).toArray⟩, 0) 32768 = (m.body, (⟨#[]⟩, 0)) := by
    unfold text
    have e4' : number (⟨(bigL m.body.size 4 ++ m.body.data.toList).toArray⟩, 0) 4 = (m.body.size, (⟨m.body.data.toList.toArray⟩, 0)) := e4
    rw [e4']
    simp only []
    rw [Nat.mod_eq_of_lt (by omega), if_neg, e5]
    show ¬ m.body.size > 32768
    omega
  unfold mread mget
  rw [hv]
  have e2' : number (⟨(bigL m.tries 4 ++ (bigL m.expiry 8 ++ (bigL m.body.size 4 ++ m.body.data.toList))).toArray⟩, 0) 4 = _ := e2
  have e3' : number (⟨(bigL m.expiry 8 ++ (bigL m.body.size 4 ++ m.body.data.toList)).toArray⟩, 0) 8 = _ := e3
  simp only [e2', e3', ht]
  rw [Nat.mod_eq_of_lt (by omega)]
  have : ende ((⟨#[]⟩ : ByteArray), (0 : Int)) = 0 := by unfold ende; simp [ByteArray.size]
  rw [this]
  simp

theorem parse_tkey (a : Nat) (q : ByteArray) (n : Nat) (hq : q.size ≤ 100) (ha : a < 2 ^ 64) (hn : n < 2 ^ 64) : parseR ⟨(tkey a q n).toArray⟩ = ({ th0 with sort := ⟨#[101]⟩, at_ := a, queue := q, id := n }, 0) := by
  have hp := partsR_key (tL a q n) (tL_ok a q n ha hn) (tkey_len a q n hq)
  have h : fitsR [num' a, str q, num' n] (shapeR ⟨#[101]⟩) = true := by
    rw [show shapeR ⟨#[101]⟩ = ⟨#[110, 115, 110]⟩ by simp [shapeR, ByteArray.toList_eq]]
    simp [fitsR, fitsL, num', str]
    decide
  have hp' : partsR ⟨(tkey a q n).toArray⟩ = (tL a q n, 0) := hp
  unfold parseR
  rw [hp', if_neg (by simp)]
  show parseL (str ⟨#[101]⟩ :: [num' a, str q, num' n]) = _
  rw [parseL_cons, if_neg]
  · simp [thOf, ByteArray.toList_eq, str, num']
  · simp only [str] at h ⊢
    rw [h]; simp

end Go.Oct

namespace Go.Oct
open Go Go.Vc Go.VrA Go.VrB Go.VrC
set_option maxRecDepth 100000

/-! ### plain: messages and their pairs -/

theorem insR_mem {m x : Ms} : ∀ {l : List Ms}, x ∈ insR m l ↔ x = m ∨ x ∈ l := by
  intro l
  induction l with
  | nil => simp [insR]
  | cons y r ih =>
    rw [insR_cons]
    split
    · simp
    · simp only [List.mem_cons, ih]
      exact ⟨fun h => by rcases h with h | h | h <;> simp [h], fun h => by rcases h with h | h | h <;> simp [h]⟩
theorem insR_sorted {m : Ms} : ∀ {l : List Ms}, l.Pairwise ltM → (∀ a ∈ l, ¬ (a.queue = m.queue ∧ a.id = m.id)) → (insR m l).Pairwise ltM := by
  intro l
  induction l with
  | nil => intro _ _; simp [insR]
  | cons y r ih =>
    intro h hne
    have h' := List.pairwise_cons.1 h
    rw [insR_cons]
    split
    · rename_i hc
      have hmy := (aheadR_iff m y).1 hc
      refine List.pairwise_cons.2 ⟨?_, h⟩
      intro a ha
      rcases List.mem_cons.1 ha with rfl | ha
      · exact hmy
      · exact ltM_trans hmy (h'.1 a ha)
    · rename_i hc
      refine List.pairwise_cons.2 ⟨?_, ih h'.2 (fun a ha => hne a (by simp [ha]))⟩
      intro a ha
      rcases insR_mem.1 ha with rfl | ha
      · rcases ltM_tri y a with h1 | h1 | h1
        · exact h1
        · exact absurd h1 (hne y (by simp))
        · exact absurd ((aheadR_iff a y).2 h1) hc
      · exact h'.1 a ha
theorem insR_length (m : Ms) : ∀ l, (insR m l).length = l.length + 1
  | [] => rfl
  | x :: r => by
    rw [insR_cons]
    split
    · simp
    · simp [insR_length m r]
theorem findL_iff (q : ByteArray) (n : Nat) : ∀ (l : List Ms) (i : Nat), findL q n l i ≥ 0 ↔ ∃ m ∈ l, m.queue = q ∧ m.id = n := by
  intro l
  induction l with
  | nil => intro i; simp [findL]
  | cons y r ih =>
    intro i
    rw [findL_cons]
    by_cases h : y.queue = q ∧ y.id = n
    · rw [if_pos h]
      exact ⟨fun _ => ⟨y, by simp, h⟩, fun _ => by omega⟩
    · rw [if_neg h, ih]
      constructor
      · rintro ⟨m, hm, e⟩; exact ⟨m, by simp [hm], e⟩
      · rintro ⟨m, hm, e⟩
        rcases List.mem_cons.1 hm with rfl | hm
        · exact absurd e h
        · exact ⟨m, hm, e⟩
theorem findL_get (q : ByteArray) (n : Nat) : ∀ (l : List Ms) (i : Nat), findL q n l i ≥ 0 → ∃ (k : Nat) (m : Ms), findL q n l i = ((i + k : Nat) : Int) ∧ l[k]? = some m ∧ m.queue = q ∧ m.id = n := by
  intro l
  induction l with
  | nil => intro i h; simp [findL] at h
  | cons y r ih =>
    intro i h
    rw [findL_cons] at h ⊢
    by_cases hc : y.queue = q ∧ y.id = n
    · rw [if_pos hc]
      exact ⟨0, y, rfl, rfl, hc⟩
    · rw [if_neg hc] at h ⊢
      obtain ⟨k, m, e, h1, h2⟩ := ih (i + 1) h
      exact ⟨k + 1, m, by rw [e]; congr 1; omega, by simpa using h1, h2⟩

structure Rel (B : List Ms) (m : M) : Prop where
  fine : ∀ x ∈ B, x.fine
  sortB : B.Pairwise ltM
  sortM : SortedM m
  mem : ∀ p, p ∈ m ↔ (∃ x ∈ B, p = (mkey x.queue x.id, (mbytes x).data.toList)) ∨ (∃ x ∈ B, x.expiry ≠ 0 ∧ p = (tkey x.expiry x.queue x.id, []))
theorem Rel.nil : Rel [] [] := ⟨by simp, List.Pairwise.nil, List.Pairwise.nil, by simp⟩

theorem uniq_of_sorted : ∀ {B : List Ms}, B.Pairwise ltM → ∀ {a b}, a ∈ B → b ∈ B → a.queue = b.queue → a.id = b.id → a = b := by
  intro B
  induction B with
  | nil => intro _ a b ha; cases ha
  | cons y r ih =>
    intro h a b ha hb hq hi
    have h' := List.pairwise_cons.1 h
    have no : ∀ x y : Ms, x.queue = y.queue → x.id = y.id → ¬ ltM x y := by
      rintro x y e1 e2 (h | ⟨_, h⟩)
      · rw [e1] at h; exact List.lt_irrefl _ h
      · omega
    rcases List.mem_cons.1 ha with e1 | ha1 <;> rcases List.mem_cons.1 hb with e2 | hb1
    · rw [e1, e2]
    · rw [e1] at hq hi; exact absurd (h'.1 b hb1) (no _ _ hq hi)
    · rw [e2] at hq hi; exact absurd (h'.1 a ha1) (no _ _ hq.symm hi.symm)
    · exact ih h'.2 ha1 hb1 hq hi

theorem Rel.look {B : List Ms} {m : M} (h : Rel B m) {x : Ms} (hx : x ∈ B) : lookM (mkey x.queue x.id) m = some (mbytes x).data.toList :=
  look_mem h.sortM (p := (mkey x.queue x.id, (mbytes x).data.toList)) ((h.mem _).2 (.inl ⟨x, hx, rfl⟩))
theorem Rel.look_none {B : List Ms} {m : M} (h : Rel B m) {q : ByteArray} {n : Nat} (hq : q.size ≤ 100) (hn : n < 2 ^ 64) (hno : ∀ x ∈ B, ¬ (x.queue = q ∧ x.id = n)) : lookM (mkey q n) m = none := by
  refine Go.Oct.look_none ?_
  intro p hp e
  rcases (h.mem p).1 hp with ⟨x, hx, rfl⟩ | ⟨x, hx, _, rfl⟩
  · have := mkey_inj hq hn (h.fine x hx).2.1 e.symm
    exact hno x hx ⟨this.1.symm, this.2.symm⟩
  · exact mkey_ne_tkey _ _ _ _ _ e.symm

theorem ins_length (x : List UInt8 × List UInt8) : ∀ m : M, (insM x m).length = m.length + 1
  | [] => rfl
  | y :: r => by
    unfold insM
    split
    · simp
    · simp [ins_length x r]
theorem put_length (k v : List UInt8) (m : M) : (putM k v m).length ≤ m.length + 1 := by
  unfold putM
  rw [ins_length]
  have := List.length_filter_le (fun p : List UInt8 × List UInt8 => !(p.1 == k)) m
  omega

theorem shelf_get (sb mb : Nat) (h0 : 0 ≠ mb) (c : Nat) (m : M) (k : List UInt8) : (shelf sb mb h0).get (c, m) ⟨k.toArray⟩ = ((⟨((lookM k m).getD []).toArray⟩, (lookM k m).isSome, 0), (c, m)) := rfl
theorem shelf_put (sb mb : Nat) (h0 : 0 ≠ mb) (c : Nat) (m : M) (k : List UInt8) (x : ByteArray) (hk : k.length ≤ 255) (hx : x.size ≤ 65536) : (shelf sb mb h0).put (c, m) ⟨k.toArray⟩ x = (0, (c + 1, putM k x.data.toList m)) := by
  have e : (shelf sb mb h0).put (c, m) ⟨k.toArray⟩ x = if (⟨k.toArray⟩ : ByteArray).size > 255 ∨ x.size > 65536 then (5, (c, m)) else (0, (c + 1, putM k x.data.toList m)) := rfl
  have e2 : (⟨k.toArray⟩ : ByteArray).size = k.length := by simp [ByteArray.size]
  rw [e, if_neg (by rw [e2]; omega)]
theorem emptyB_false {k : List UInt8} {c : UInt8} {l : List UInt8} (h : k = c :: l) : emptyB ⟨k.toArray⟩ = false := by simp [emptyB, ByteArray.toList_eq, h]

theorem madd_shelf (sb mb : Nat) (h0 : 0 ≠ mb) (c : Nat) (m : M) (B : List Ms) (x : Ms) (hr : Rel B m) (hx : x.fine) :
    (findL x.queue x.id B 0 ≥ 0 → (shelf sb mb h0).madd (c, m) x = (22, (c, m))) ∧
    (¬ findL x.queue x.id B 0 ≥ 0 → ∃ c' m', (shelf sb mb h0).madd (c, m) x = (0, (c', m')) ∧ c' ≤ c + 2 ∧ m'.length ≤ m.length + 2 ∧ Rel (insR x B) m') := by
  have hkl := mkey_len x.queue x.id hx.1
  have htl := tkey_len x.expiry x.queue x.id hx.1
  have hbs := mbytes_size x hx
  unfold Sto.madd
  rw [keysR_eq x hx]
  constructor
  · intro hf
    obtain ⟨y, hy, e1, e2⟩ := (findL_iff _ _ _ _).1 hf
    have := hr.look hy
    rw [e1, e2] at this
    have hg : (shelf sb mb h0).get (c, m) ⟨(mkey x.queue x.id).toArray⟩ = ((⟨(mbytes y).data.toList.toArray⟩, true, 0), (c, m)) := by rw [shelf_get, this]; rfl
    simp only [hg]
    simp
  · intro hf
    have hno : ∀ y ∈ B, ¬ (y.queue = x.queue ∧ y.id = x.id) := fun y hy e => hf ((findL_iff _ _ _ _).2 ⟨y, hy, e⟩)
    have hg : (shelf sb mb h0).get (c, m) ⟨(mkey x.queue x.id).toArray⟩ = ((⟨#[]⟩, false, 0), (c, m)) := by rw [shelf_get, hr.look_none hx.1 hx.2.1 hno]; rfl
    have hp1 := shelf_put sb mb h0 c m (mkey x.queue x.id) (mbytes x) hkl (by omega)
    simp only [hg]
    unfold Sto.mput
    rw [keysR_eq x hx]
    simp only [hp1, ne_eq, not_true_eq_false, if_false, false_or, Bool.false_eq_true]
    have hsort1 : SortedM (putM (mkey x.queue x.id) (mbytes x).data.toList m) := sorted_put hr.sortM
    have hfine : ∀ y ∈ insR x B, y.fine := by
      intro y hy
      rcases insR_mem.1 hy with rfl | hy
      · exact hx
      · exact hr.fine y hy
    have hmem1 : ∀ p, p ∈ putM (mkey x.queue x.id) (mbytes x).data.toList m ↔ p = (mkey x.queue x.id, (mbytes x).data.toList) ∨ p ∈ m := by
      intro p
      rw [mem_put]
      constructor
      · rintro (h | h)
        · exact .inl h
        · exact .inr h.1
      · rintro (h | h)
        · exact .inl h
        · refine .inr ⟨h, ?_⟩
          intro e
          have h1 := hr.look_none hx.1 hx.2.1 hno
          have h2 := look_mem hr.sortM h
          rw [e, h1] at h2; cases h2
    by_cases he : x.expiry = 0
    · have e0' : emptyB (if x.expiry = 0 then e0 else (⟨(tkey x.expiry x.queue x.id).toArray⟩ : ByteArray)) = true := by rw [if_pos he]; simp [emptyB, e0, ByteArray.toList_eq]
      rw [if_pos e0']
      refine ⟨c + 1, _, rfl, by omega, by have := put_length (mkey x.queue x.id) (mbytes x).data.toList m; omega, hfine, insR_sorted hr.sortB hno, hsort1, ?_⟩
      intro p
      rw [hmem1, hr.mem]
      constructor
      · rintro (h | ⟨y, hy, h⟩ | ⟨y, hy, h⟩)
        · exact .inl ⟨x, insR_mem.2 (.inl rfl), h⟩
        · exact .inl ⟨y, insR_mem.2 (.inr hy), h⟩
        · exact .inr ⟨y, insR_mem.2 (.inr hy), h⟩
      · rintro (⟨y, hy, h⟩ | ⟨y, hy, h⟩)
        · rcases insR_mem.1 hy with rfl | hy
          · exact .inl h
          · exact .inr (.inl ⟨y, hy, h⟩)
        · rcases insR_mem.1 hy with rfl | hy
          · exact absurd he h.1
          · exact .inr (.inr ⟨y, hy, h⟩)
    · have e0' : ¬ emptyB (if x.expiry = 0 then e0 else (⟨(tkey x.expiry x.queue x.id).toArray⟩ : ByteArray)) = true := by
        rw [if_neg he, emptyB_false (tkey_eq _ _ _)]; decide
      have hp2 := shelf_put sb mb h0 (c + 1) (putM (mkey x.queue x.id) (mbytes x).data.toList m) (tkey x.expiry x.queue x.id) ⟨#[]⟩ htl (by decide)
      rw [if_neg e0', if_neg he, hp2]
      refine ⟨c + 1 + 1, _, rfl, by omega, ?_, hfine, insR_sorted hr.sortB hno, sorted_put hsort1, ?_⟩
      · have h1 := put_length (mkey x.queue x.id) (mbytes x).data.toList m
        have h2 := put_length (tkey x.expiry x.queue x.id) (⟨#[]⟩ : ByteArray).data.toList (putM (mkey x.queue x.id) (mbytes x).data.toList m)
        omega
      · intro p
        rw [mem_put, hmem1, hr.mem]
        have e9 : (⟨#[]⟩ : ByteArray).data.toList = [] := rfl
        rw [e9]
        constructor
        · rintro (h | ⟨h | ⟨y, hy, h⟩ | ⟨y, hy, h⟩, _⟩)
          · exact .inr ⟨x, insR_mem.2 (.inl rfl), he, h⟩
          · exact .inl ⟨x, insR_mem.2 (.inl rfl), h⟩
          · exact .inl ⟨y, insR_mem.2 (.inr hy), h⟩
          · exact .inr ⟨y, insR_mem.2 (.inr hy), h⟩
        · rintro (⟨y, hy, h⟩ | ⟨y, hy, h⟩)
          · refine .inr ⟨?_, by rw [h]; exact mkey_ne_tkey _ _ _ _ _⟩
            rcases insR_mem.1 hy with rfl | hy
            · exact .inl h
            · exact .inr (.inl ⟨y, hy, h⟩)
          · rcases insR_mem.1 hy with rfl | hy
            · exact .inl h.2
            · refine .inr ⟨.inr (.inr ⟨y, hy, h⟩), ?_⟩
              rw [h.2]
              intro e
              have hyf := hr.fine y hy
              have := tkey_inj hyf.1 hyf.2.2.1 hx.2.2.1 hyf.2.1 hx.2.1 e
              exact hno y hy ⟨this.2.1, this.2.2⟩

/-! what is due, by the reference -/
theorem insD_mem {m x : Ms} : ∀ {l : List Ms}, x ∈ insD m l ↔ x = m ∨ x ∈ l := by
  intro l
  induction l with
  | nil => simp [insD]
  | cons y r ih =>
    rw [insD_cons]
    split
    · simp
    · simp only [List.mem_cons, ih]
      exact ⟨fun h => by rcases h with h | h | h <;> simp [h], fun h => by rcases h with h | h | h <;> simp [h]⟩
theorem insD_sorted {m : Ms} : ∀ {l : List Ms}, l.Pairwise ltT → (∀ a ∈ l, ltT a m ∨ ltT m a) → (insD m l).Pairwise ltT := by
  intro l
  induction l with
  | nil => intro _ _; simp [insD]
  | cons y r ih =>
    intro h hne
    have h' := List.pairwise_cons.1 h
    have hc' : (m.expiry < y.expiry ∨ (m.expiry = y.expiry ∧ aheadR m y = true)) ↔ ltT m y := by unfold ltT; rw [aheadR_iff]
    rw [insD_cons]
    split
    · rename_i hc
      have hmy := hc'.1 hc
      refine List.pairwise_cons.2 ⟨?_, h⟩
      intro a ha
      rcases List.mem_cons.1 ha with rfl | ha
      · exact hmy
      · exact ltT_trans hmy (h'.1 a ha)
    · rename_i hc
      refine List.pairwise_cons.2 ⟨?_, ih h'.2 (fun a ha => hne a (by simp [ha]))⟩
      intro a ha
      rcases insD_mem.1 ha with rfl | ha
      · rcases hne y (by simp) with h1 | h1
        · exact h1
        · exact absurd (hc'.2 h1) hc
      · exact h'.1 a ha
theorem due_go (now : Nat) : ∀ (B acc : List Ms), acc.Pairwise ltT → B.Pairwise ltM → (∀ a ∈ acc, ∀ b ∈ B, ltM a b) →
    (B.foldl (dueStep now) acc).Pairwise ltT ∧ ∀ x, x ∈ B.foldl (dueStep now) acc ↔ x ∈ acc ∨ (x ∈ B ∧ x.expiry ≠ 0 ∧ x.expiry ≤ now) := by
  intro B
  induction B with
  | nil => intro acc h _ _; exact ⟨h, by simp⟩
  | cons y r ih =>
    intro acc h hB hab
    have hB' := List.pairwise_cons.1 hB
    rw [List.foldl_cons]
    unfold dueStep
    by_cases hc : y.expiry = 0 ∨ now < y.expiry
    · rw [if_pos hc]
      obtain ⟨h1, h2⟩ := ih acc h hB'.2 (fun a ha b hb => hab a ha b (by simp [hb]))
      refine ⟨h1, fun x => ?_⟩
      have := h2 x
      unfold dueStep at this
      rw [this]
      constructor
      · rintro (h | h)
        · exact .inl h
        · exact .inr ⟨by simp [h.1], h.2⟩
      · rintro (h | ⟨h, h3⟩)
        · exact .inl h
        · rcases List.mem_cons.1 h with rfl | h
          · rcases hc with hc | hc
            · exact absurd hc h3.1
            · omega
          · exact .inr ⟨h, h3⟩
    · rw [if_neg hc]
      have hs : (insD y acc).Pairwise ltT := by
        refine insD_sorted h ?_
        intro a ha
        have hm := hab a ha y (by simp)
        rcases Nat.lt_trichotomy a.expiry y.expiry with h1 | h1 | h1
        · exact .inl (.inl h1)
        · exact .inl (.inr ⟨h1, hm⟩)
        · exact .inr (.inl h1)
      obtain ⟨h1, h2⟩ := ih (insD y acc) hs hB'.2 (by
        intro a ha b hb
        rcases insD_mem.1 ha with rfl | ha
        · exact hB'.1 b hb
        · exact hab a ha b (by simp [hb]))
      refine ⟨h1, fun x => ?_⟩
      have := h2 x
      unfold dueStep at this
      rw [this, insD_mem]
      constructor
      · rintro ((h | h) | h)
        · subst h; exact .inr ⟨by simp, by omega, by omega⟩
        · exact .inl h
        · exact .inr ⟨by simp [h.1], h.2⟩
      · rintro (h | ⟨h, h3⟩)
        · exact .inl (.inr h)
        · rcases List.mem_cons.1 h with rfl | h
          · exact .inl (.inl rfl)
          · exact .inr ⟨h, h3⟩
theorem due_sorted (now : Nat) {B : List Ms} (h : B.Pairwise ltM) : (dueR now B).Pairwise ltT := (due_go now B [] List.Pairwise.nil h (by simp)).1
theorem due_mem (now : Nat) {B : List Ms} (h : B.Pairwise ltM) (x : Ms) : x ∈ dueR now B ↔ x ∈ B ∧ x.expiry ≠ 0 ∧ x.expiry ≤ now := by
  have := (due_go now B [] List.Pairwise.nil h (by simp)).2 x
  simpa [dueR] using this

end Go.Oct

namespace Go.Oct
open Go Go.Vc Go.VrA Go.VrB Go.VrC
set_option maxRecDepth 100000

/-! ### plain: what is due with a stray term -/

theorem under_eb (b : Nat) : (underK ⟨#[101]⟩ [num' b]).1 = ⟨(2 :: 101 :: 0 :: 0 :: (num' b).bytes).toArray⟩ := by
  have e : keyB [str ⟨#[101]⟩, num' b] = 2 :: 101 :: 0 :: 0 :: (num' b).bytes := by
    show (str ⟨#[101]⟩).bytes ++ ((num' b).bytes ++ []) = _
    rw [str_bytes, List.append_nil]; rfl
  have h : keyL [str ⟨#[101]⟩, num' b] [] = (⟨(2 :: 101 :: 0 :: 0 :: (num' b).bytes).toArray⟩, 0) := by
    rw [keyL_nil, e, if_pos]
    rw [num_bytes]; simp [bigL_length]
  unfold underK
  rw [h, if_neg (by simp)]

def hiL (now : Nat) : List UInt8 := if now < 18446744073709551615 then 2 :: 101 :: 0 :: 0 :: (num' (now + 1)).bytes else [2, 101, 0, 1]
theorem dueTo_eq (now : Nat) : (dueTo now).data.toList = hiL now := by
  unfold dueTo hiL
  split
  · rw [under_eb]
  · rw [under_e]

theorem inR_m (q : ByteArray) (n now : Nat) (v : List UInt8) : inR [2, 101, 0, 0] (hiL now) (mkey q n, v) = false := by
  have hb : (hiL now == []) = false := by unfold hiL; split <;> rfl
  have h2 : ¬ mkey q n < hiL now := by
    rw [mkey_eq]
    unfold hiL
    split
    · rw [cons_lt_same, List.cons_lt_cons_iff]
      rintro (h | ⟨h, _⟩)
      · exact absurd h (by decide)
      · exact absurd h (by decide)
    · rw [cons_lt_same, List.cons_lt_cons_iff]
      rintro (h | ⟨h, _⟩)
      · exact absurd h (by decide)
      · exact absurd h (by decide)
  unfold inR
  rw [hb, Go.Proofs.bytesLess_eq, Go.Proofs.bytesLess_eq]
  simp [h2]
theorem inR_t (a : Nat) (q : ByteArray) (n now : Nat) (v : List UInt8) (ha : a < 2 ^ 64) (hnow : now < 2 ^ 64) : inR [2, 101, 0, 0] (hiL now) (tkey a q n, v) = decide (a ≤ now) := by
  have hb : (hiL now == []) = false := by unfold hiL; split <;> rfl
  have h1 : ¬ tkey a q n < [2, 101, 0, 0] := by
    rw [tkey_eq, cons_lt_same, cons_lt_same, cons_lt_same, cons_lt_same]
    exact List.not_lt_nil _
  have h2 : tkey a q n < hiL now ↔ a ≤ now := by
    unfold hiL
    split
    · rw [tkey_lt_bound a q n (now + 1) ha (by omega)]; omega
    · constructor
      · intro _; omega
      · intro _
        rw [tkey_eq, cons_lt_same, cons_lt_same, cons_lt_same, List.cons_lt_cons_iff]
        exact .inl (by decide)
  unfold inR
  rw [hb, Go.Proofs.bytesLess_eq, Go.Proofs.bytesLess_eq]
  simp [h1, h2]

def tP (x : Ms) : List UInt8 × List UInt8 := (tkey x.expiry x.queue x.id, [])
def tk (x : Ms) : List UInt8 := tkey x.expiry x.queue x.id
def Right (B : List Ms) (x : Ms) : Prop := ∃ y ∈ B, y.queue = x.queue ∧ y.id = x.id ∧ y.expiry = x.expiry

theorem tP_sorted {D : List Ms} (h : D.Pairwise ltT) (hf : ∀ x ∈ D, x.fine) : SortedM (D.map tP) := by
  unfold SortedM
  rw [List.pairwise_map]
  refine List.Pairwise.imp_of_mem ?_ h
  intro a b ha hb hab
  exact (tkey_lt a b (hf a ha).2.2.1 (hf b hb).2.2.1 (hf a ha).2.1 (hf b hb).2.1).2 hab

/-- what the shelf's row of terms is. -/
def dueT (B : List Ms) (x : Ms) (now : Nat) : List Ms := (dueR now B).filter fun y => decide (tk y < tk x)
def dueU (B : List Ms) (x : Ms) (now : Nat) : List Ms := (dueR now B).filter fun y => !decide (tk y < tk x)

theorem rng_due {B : List Ms} {m : M} {x : Ms} {now : Nat} (hr : Rel B m) (hq : x.queue.size ≤ 100) (hi : x.id < 2 ^ 64) (he : x.expiry < 2 ^ 64) (he0 : x.expiry ≠ 0) (hn : now < 2 ^ 64) :
    ((Right B x ∨ now < x.expiry) → rngM [2, 101, 0, 0] (hiL now) (putM (tk x) [] m) = (dueR now B).map tP) ∧
    (¬ Right B x → x.expiry ≤ now → rngM [2, 101, 0, 0] (hiL now) (putM (tk x) [] m) = (dueT B x now).map tP ++ tP x :: (dueU B x now).map tP) := by
  have hDs := due_sorted now hr.sortB
  have hDm := due_mem now hr.sortB
  have hDf : ∀ y ∈ dueR now B, y.fine := fun y hy => hr.fine y ((hDm y).1 hy).1
  have hRs : SortedM (rngM [2, 101, 0, 0] (hiL now) (putM (tk x) [] m)) := List.Pairwise.filter _ (sorted_put hr.sortM)
  have hRm : ∀ p, p ∈ rngM [2, 101, 0, 0] (hiL now) (putM (tk x) [] m) ↔ (p = tP x ∧ x.expiry ≤ now) ∨ (∃ y ∈ dueR now B, p = tP y) := by
    intro p
    unfold rngM
    rw [List.mem_filter, mem_put, hr.mem]
    constructor
    · rintro ⟨h | ⟨⟨y, hy, rfl⟩ | ⟨y, hy, h0, rfl⟩, _⟩, hin⟩
      · subst h
        have : inR [2, 101, 0, 0] (hiL now) (tk x, []) = decide (x.expiry ≤ now) := inR_t _ _ _ _ _ he hn
        rw [this] at hin
        exact .inl ⟨rfl, of_decide_eq_true hin⟩
      · rw [inR_m] at hin; cases hin
      · rw [inR_t _ _ _ _ _ (hr.fine y hy).2.2.1 hn] at hin
        exact .inr ⟨y, (hDm y).2 ⟨hy, h0, of_decide_eq_true hin⟩, rfl⟩
    · rintro (⟨rfl, h⟩ | ⟨y, hy, rfl⟩)
      · refine ⟨.inl rfl, ?_⟩
        have : inR [2, 101, 0, 0] (hiL now) (tP x) = decide (x.expiry ≤ now) := inR_t _ _ _ _ _ he hn
        rw [this]; exact decide_eq_true h
      · obtain ⟨h1, h2, h3⟩ := (hDm y).1 hy
        refine ⟨?_, ?_⟩
        · by_cases hk : tk y = tk x
          · exact .inl (by unfold tP; rw [show tkey y.expiry y.queue y.id = tk y from rfl, hk])
          · exact .inr ⟨.inr ⟨y, h1, h2, rfl⟩, hk⟩
        · have : inR [2, 101, 0, 0] (hiL now) (tP y) = decide (y.expiry ≤ now) := inR_t _ _ _ _ _ (hr.fine y h1).2.2.1 hn
          rw [this]; exact decide_eq_true h3
  constructor
  · intro hc
    refine sorted_ext hRs (tP_sorted hDs hDf) ?_
    intro p
    rw [hRm, List.mem_map]
    constructor
    · rintro (⟨rfl, h⟩ | ⟨y, hy, rfl⟩)
      · rcases hc with ⟨y, hy, e1, e2, e3⟩ | hc
        · exact ⟨y, (hDm y).2 ⟨hy, by omega, by omega⟩, by unfold tP; rw [e1, e2, e3]⟩
        · omega
      · exact ⟨y, hy, rfl⟩
    · rintro ⟨y, hy, rfl⟩
      exact .inr ⟨y, hy, rfl⟩
  · intro hnr hle
    have hmemT : ∀ y, y ∈ dueT B x now ↔ y ∈ dueR now B ∧ tk y < tk x := fun y => by unfold dueT; rw [List.mem_filter]; simp
    have hmemU : ∀ y, y ∈ dueU B x now ↔ y ∈ dueR now B ∧ ¬ tk y < tk x := fun y => by unfold dueU; rw [List.mem_filter]; simp
    have hne : ∀ y ∈ dueR now B, tk y ≠ tk x := by
      intro y hy e
      obtain ⟨h1, _, _⟩ := (hDm y).1 hy
      have hyf := hr.fine y h1
      have := tkey_inj hyf.1 hyf.2.2.1 he hyf.2.1 hi e
      exact hnr ⟨y, h1, this.2.1, this.2.2, this.1⟩
    have hgt : ∀ y ∈ dueU B x now, tk x < tk y := by
      intro y hy
      obtain ⟨h1, h2⟩ := (hmemU y).1 hy
      rcases lst_tri (tk y) (tk x) with h | h | h
      · exact absurd h h2
      · exact absurd h (hne y h1)
      · exact h
    refine sorted_ext hRs ?_ ?_
    · unfold SortedM
      rw [List.pairwise_append]
      refine ⟨tP_sorted (List.Pairwise.filter _ hDs) (fun y hy => hDf y ((hmemT y).1 hy).1), ?_, ?_⟩
      · refine List.pairwise_cons.2 ⟨?_, tP_sorted (List.Pairwise.filter _ hDs) (fun y hy => hDf y ((hmemU y).1 hy).1)⟩
        intro p hp
        obtain ⟨y, hy, rfl⟩ := List.mem_map.1 hp
        exact hgt y hy
      · intro p hp p' hp'
        obtain ⟨y, hy, rfl⟩ := List.mem_map.1 hp
        have h1 := ((hmemT y).1 hy).2
        rcases List.mem_cons.1 hp' with rfl | hp'
        · exact h1
        · obtain ⟨y', hy', rfl⟩ := List.mem_map.1 hp'
          exact List.lt_trans h1 (hgt y' hy')
    · intro p
      rw [hRm, List.mem_append, List.mem_cons, List.mem_map, List.mem_map]
      constructor
      · rintro (⟨rfl, _⟩ | ⟨y, hy, rfl⟩)
        · exact .inr (.inl rfl)
        · by_cases h : tk y < tk x
          · exact .inl ⟨y, (hmemT y).2 ⟨hy, h⟩, rfl⟩
          · exact .inr (.inr ⟨y, (hmemU y).2 ⟨hy, h⟩, rfl⟩)
      · rintro (⟨y, hy, rfl⟩ | rfl | ⟨y, hy, rfl⟩)
        · exact .inr ⟨y, ((hmemT y).1 hy).1, rfl⟩
        · exact .inl ⟨rfl, hle⟩
        · exact .inr ⟨y, ((hmemU y).1 hy).1, rfl⟩

/-! what Due gives of each -/
theorem look_put_other {k k' v : List UInt8} (h : k' ≠ k) : ∀ {m : M}, SortedM m → lookM k' (putM k v m) = lookM k' m := by
  intro m hs
  cases hl : lookM k' m with
  | some u =>
    have := look_some_mem hl
    exact look_mem (sorted_put hs) (p := (k', u)) (mem_put.2 (.inr ⟨this, h⟩))
  | none =>
    refine Go.Oct.look_none ?_
    intro p hp e
    rcases mem_put.1 hp with rfl | ⟨hp, _⟩
    · exact h e.symm
    · have h1 := look_mem hs hp
      rw [e, hl] at h1; cases h1

theorem mget_in (sb mb : Nat) (h0 : 0 ≠ mb) (c : Nat) {B : List Ms} {m : M} (k : List UInt8) (hr : Rel B m) {y : Ms} (hy : y ∈ B) (hk : ∀ q n, mkey q n ≠ k) : (shelf sb mb h0).mgetR (c, putM k [] m) y.queue y.id = (y, 0) := by
  have hyf := hr.fine y hy
  have hl := hr.look hy
  have hg : (shelf sb mb h0).get (c, putM k [] m) ⟨(mkey y.queue y.id).toArray⟩ = ((⟨(mbytes y).data.toList.toArray⟩, true, 0), (c, putM k [] m)) := by
    rw [shelf_get, look_put_other (hk _ _) hr.sortM, hl]; rfl
  unfold Sto.mgetR mfound
  rw [messageK_eq _ _ hyf.1]
  simp only [hg, ne_eq, not_true_eq_false, if_false, Bool.true_eq_false]
  exact mread_mbytes y hyf
theorem mget_out (sb mb : Nat) (h0 : 0 ≠ mb) (c : Nat) {B : List Ms} {m : M} (k : List UInt8) (hr : Rel B m) {q : ByteArray} {n : Nat} (hq : q.size ≤ 100) (hn : n < 2 ^ 64) (hno : ∀ y ∈ B, ¬ (y.queue = q ∧ y.id = n)) (hk : ∀ q n, mkey q n ≠ k) : (shelf sb mb h0).mgetR (c, putM k [] m) q n = (ms0, 21) := by
  have hg : (shelf sb mb h0).get (c, putM k [] m) ⟨(mkey q n).toArray⟩ = ((⟨#[]⟩, false, 0), (c, putM k [] m)) := by
    rw [shelf_get, look_put_other (hk _ _) hr.sortM, hr.look_none hq hn hno]; rfl
  unfold Sto.mgetR mfound
  rw [messageK_eq _ _ hq]
  simp only [hg, ne_eq, not_true_eq_false, if_false, if_true]

theorem dgot_term {σ : Type} (St : Sto σ) (s : σ) (a : Nat) (q : ByteArray) (n : Nat) (hq : q.size ≤ 100) (ha : a < 2 ^ 64) (hn : n < 2 ^ 64) (v : List UInt8) :
    dgot St s ((tkey a q n, v), 0) = dueG St s { th0 with sort := ⟨#[101]⟩, at_ := a, queue := q, id := n } := by
  unfold dgot
  rw [parse_tkey a q n hq ha hn]
  simp

theorem dgot_in (sb mb : Nat) (h0 : 0 ≠ mb) (c : Nat) {B : List Ms} {m : M} (k : List UInt8) (hr : Rel B m) {y : Ms} (hy : y ∈ B) (hk : ∀ q n, mkey q n ≠ k) : dgot (shelf sb mb h0) (c, putM k [] m) (tP y, 0) = (y, 0) := by
  have hyf := hr.fine y hy
  unfold tP
  rw [dgot_term _ _ _ _ _ hyf.1 hyf.2.2.1 hyf.2.1]
  unfold dueG
  simp only [mget_in sb mb h0 c k hr hy hk]
  simp
theorem dgot_out (sb mb : Nat) (h0 : 0 ≠ mb) (c : Nat) {B : List Ms} {m : M} (k : List UInt8) (hr : Rel B m) {x : Ms} (hq : x.queue.size ≤ 100) (hi : x.id < 2 ^ 64) (he : x.expiry < 2 ^ 64) (hnr : ¬ Right B x) (hk : ∀ q n, mkey q n ≠ k) : dgot (shelf sb mb h0) (c, putM k [] m) (tP x, 0) = (ms0, 31) := by
  unfold tP
  rw [dgot_term _ _ _ _ _ hq he hi]
  unfold dueG
  by_cases hf : ∃ y ∈ B, y.queue = x.queue ∧ y.id = x.id
  · obtain ⟨y, hy, e1, e2⟩ := hf
    have hg := mget_in sb mb h0 c k hr hy hk
    rw [e1, e2] at hg
    simp only [hg]
    have : y.expiry ≠ x.expiry := fun e => hnr ⟨y, hy, e1, e2, e⟩
    simp [this]
  · have hg := mget_out sb mb h0 c k hr hq hi (fun y hy e => hf ⟨y, hy, e⟩) hk
    simp only [hg]
    simp

theorem dueL_in (sb mb : Nat) (h0 : 0 ≠ mb) (c : Nat) {B : List Ms} {m : M} (k : List UInt8) (hr : Rel B m) (hk : ∀ q n, mkey q n ≠ k) (rest : List Pr) : ∀ (D : List Ms), (∀ y ∈ D, y ∈ B) →
    dueL (shelf sb mb h0) (c, putM k [] m) ((D.map tP).map (fun p => (p, (0 : Int))) ++ rest) = D.map (fun y => (y, (0 : Int))) ++ dueL (shelf sb mb h0) (c, putM k [] m) rest := by
  intro D
  induction D with
  | nil => intro _; rfl
  | cons y D ih =>
    intro h
    have hd := dgot_in sb mb h0 c k hr (h y (by simp)) hk
    simp only [List.map_cons, List.cons_append]
    rw [dueL_cons, hd, if_neg (by simp), ih (fun z hz => h z (by simp [hz]))]

/-- what message.Due gives, with a stray term. -/
def dueS (B : List Ms) (x : Ms) (now : Nat) : List (Ms × Int) := (dueT B x now).map (fun y => (y, (0 : Int))) ++ [(ms0, 31)]
theorem due_stray (sb mb : Nat) (h0 : 0 ≠ mb) (c : Nat) {B : List Ms} {m : M} {x : Ms} {now : Nat} (hr : Rel B m) (hq : x.queue.size ≤ 100) (hi : x.id < 2 ^ 64) (he : x.expiry < 2 ^ 64) (he0 : x.expiry ≠ 0) (hn : now < 2 ^ 64) :
    ((Right B x ∨ now < x.expiry) → dueL (shelf sb mb h0) (c, putM (tk x) [] m) ((shelf sb mb h0).dueRows (c, putM (tk x) [] m) now) = (dueR now B).map (fun y => (y, (0 : Int)))) ∧
    (¬ Right B x → x.expiry ≤ now → dueL (shelf sb mb h0) (c, putM (tk x) [] m) ((shelf sb mb h0).dueRows (c, putM (tk x) [] m) now) = dueS B x now) := by
  have hDm := due_mem now hr.sortB
  have hk : ∀ q n, mkey q n ≠ tk x := fun q n => mkey_ne_tkey _ _ _ _ _
  have hrows : (shelf sb mb h0).dueRows (c, putM (tk x) [] m) now = okRows (rngM [2, 101, 0, 0] (hiL now) (putM (tk x) [] m)) := by
    unfold Sto.dueRows
    rw [under_e]
    show okRows (rngM _ (dueTo now).data.toList _) = _
    rw [dueTo_eq]
  obtain ⟨hA, hB⟩ := rng_due hr hq hi he he0 hn
  constructor
  · intro hc
    have := dueL_in sb mb h0 c (tk x) hr hk [] (dueR now B) (fun y hy => ((hDm y).1 hy).1)
    rw [List.append_nil] at this
    rw [hrows, hA hc]
    have e : dueL (shelf sb mb h0) (c, putM (tk x) [] m) [] = [] := rfl
    rw [e, List.append_nil] at this
    exact this
  · intro hnr hle
    have hT : ∀ y ∈ dueT B x now, y ∈ B := fun y hy => ((hDm y).1 (List.mem_filter.1 hy).1).1
    have := dueL_in sb mb h0 c (tk x) hr hk (okRows (tP x :: (dueU B x now).map tP)) (dueT B x now) hT
    rw [hrows, hB hnr hle]
    have e1 : okRows ((dueT B x now).map tP ++ tP x :: (dueU B x now).map tP) = ((dueT B x now).map tP).map (fun p => (p, (0 : Int))) ++ okRows (tP x :: (dueU B x now).map tP) := by
      unfold okRows; rw [List.map_append]
    rw [e1, this]
    have e2 : dueL (shelf sb mb h0) (c, putM (tk x) [] m) (okRows (tP x :: (dueU B x now).map tP)) = [(ms0, 31)] := by
      show dueL _ _ ((tP x, 0) :: okRows ((dueU B x now).map tP)) = _
      rw [dueL_cons, dgot_out sb mb h0 c (tk x) hr hq hi he hnr hk, if_pos (by simp)]
    rw [e2]; rfl

/-- the reference cuts there too. -/
theorem take_filter {α : Type} (p : α → Bool) : ∀ (l : List α), l.Pairwise (fun a b => p b = true → p a = true) → l.take (l.countP p) = l.filter p := by
  intro l
  induction l with
  | nil => intro _; rfl
  | cons a l ih =>
    intro h
    have h' := List.pairwise_cons.1 h
    cases ha : p a with
    | true => rw [List.countP_cons_of_pos ha, List.take_succ_cons, List.filter_cons_of_pos ha, ih h'.2]
    | false =>
      have hz : ∀ b ∈ l, ¬ p b = true := fun b hb hpb => by have := h'.1 b hb hpb; rw [ha] at this; cases this
      rw [List.countP_cons_of_neg (by simp [ha]), List.filter_cons_of_neg (by simp [ha]), List.countP_eq_zero.2 hz, List.filter_eq_nil_iff.2 hz]
      rfl
theorem dueT_take {B : List Ms} {m : M} (hr : Rel B m) (x : Ms) (now : Nat) : (dueR now B).take ((dueR now B).countP fun y => decide (tk y < tk x)) = dueT B x now := by
  refine take_filter _ _ ?_
  refine List.Pairwise.imp_of_mem ?_ (due_sorted now hr.sortB)
  intro a b ha hb hab h
  have hDm := due_mem now hr.sortB
  have haf := hr.fine a ((hDm a).1 ha).1
  have hbf := hr.fine b ((hDm b).1 hb).1
  have := (tkey_lt a b haf.2.2.1 hbf.2.2.1 haf.2.1 hbf.2.1).2 hab
  exact decide_eq_true (List.lt_trans this (of_decide_eq_true h))

end Go.Oct
