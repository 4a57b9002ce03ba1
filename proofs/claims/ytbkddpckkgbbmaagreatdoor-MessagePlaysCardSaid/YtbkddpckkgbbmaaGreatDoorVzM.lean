import Derived.Test.YtbkddpckkgbbmaaGreatDoorVzK
import Derived.Test.YtbkddpckkgbbmaaGreatDoorVqN
set_option linter.unusedSimpArgs false
set_option linter.unusedVariables false
set_option linter.unusedSectionVars false
set_option linter.unnecessarySimpa false
namespace Go.Oct
open Go Go.Vc Go.VrA Go.VrB Go.VrC Go.VrE
set_option maxRecDepth 100000

/-! ### plain: messages whose keys fit, and their pairs -/

def Ms.lens (m : Ms) : Prop := (mkey m.queue m.id).length ≤ 255 ∧ (m.expiry ≠ 0 → (tkey m.expiry m.queue m.id).length ≤ 255)
def Ms.fit (m : Ms) : Prop := m.lens ∧ m.id < 2 ^ 64 ∧ m.expiry < 2 ^ 64 ∧ m.tries < 2 ^ 32 ∧ m.body.size ≤ 1000
theorem mkey_length (q : ByteArray) (n : Nat) : (mkey q n).length = 16 + (esc q.data.toList).length := by
  have e : (esc (⟨#[109]⟩ : ByteArray).data.toList) = [109] := rfl
  simp only [mkey, mL, keyB_cons, str_bytes, num_bytes, List.length_append, List.length_cons, List.length_nil, bigL_length, e]
  simp only [keyB, List.flatMap_nil, List.length_nil]
  omega
theorem Ms.fit.qsize {m : Ms} (h : m.fit) : m.queue.size < 256 := by
  have h1 := h.1.1
  rw [mkey_length] at h1
  have h2 := esc_ge m.queue.data.toList
  have h3 : m.queue.data.toList.length = m.queue.size := by rw [Array.length_toList]; rfl
  omega
theorem messageK_if (q : ByteArray) (n : Nat) : messageK q n = if (mkey q n).length ≤ 255 then (⟨(mkey q n).toArray⟩, 0) else (e0, 5) := keyL_nil _
theorem termK_if (a : Nat) (q : ByteArray) (n : Nat) : termK a q n = if (tkey a q n).length ≤ 255 then (⟨(tkey a q n).toArray⟩, 0) else (e0, 5) := keyL_nil _
theorem keysR_fit {m : Ms} (h : m.lens) : keysR m = (⟨(mkey m.queue m.id).toArray⟩, if m.expiry = 0 then e0 else ⟨(tkey m.expiry m.queue m.id).toArray⟩, 0) := by
  unfold keysR
  rw [messageK_if, termK_if, if_pos h.1]
  by_cases h0 : m.expiry = 0
  · simp [h0]
  · rw [if_pos (h.2 h0)]; simp [h0]
theorem keysR_unfit {m : Ms} (h : ¬ m.lens) : (keysR m).2.2 = 5 := by
  unfold keysR
  rw [messageK_if, termK_if]
  by_cases h1 : (mkey m.queue m.id).length ≤ 255
  · rw [if_pos h1]
    by_cases h0 : m.expiry = 0
    · exact (h ⟨h1, fun x => (x h0).elim⟩).elim
    · have h2 : ¬ (tkey m.expiry m.queue m.id).length ≤ 255 := fun x => h ⟨h1, fun _ => x⟩
      rw [if_neg h2]; simp [h0]
  · rw [if_neg h1]; simp
theorem mkey_inj2 {q q' : ByteArray} {n n' : Nat} (hl : (mkey q n).length ≤ 255) (hn : n < 2 ^ 64) (hn' : n' < 2 ^ 64) (e : mkey q n = mkey q' n') : q = q' ∧ n = n' := by
  have := keyB_inj (mL_ok q n hn) (mL_ok q' n' hn') hl e
  simp only [mL, str, num', List.cons.injEq, Pt.mk.injEq, true_and, and_true] at this
  exact ⟨this.1, this.2⟩
theorem tkey_inj2 {a a' : Nat} {q q' : ByteArray} {n n' : Nat} (hl : (tkey a q n).length ≤ 255) (ha : a < 2 ^ 64) (ha' : a' < 2 ^ 64) (hn : n < 2 ^ 64) (hn' : n' < 2 ^ 64) (e : tkey a q n = tkey a' q' n') : a = a' ∧ q = q' ∧ n = n' := by
  have := keyB_inj (tL_ok a q n ha hn) (tL_ok a' q' n' ha' hn') hl e
  simp only [tL, str, num', List.cons.injEq, Pt.mk.injEq, true_and, and_true] at this
  exact ⟨this.1, this.2.1, this.2.2⟩

/-- what the bytes tell does not hang on the queue. -/
theorem mread_queue (q q' : ByteArray) (i : Nat) (s : ByteArray) (h : (mread q' i s).2 = 0) : mread q i s = ({ (mread q' i s).1 with queue := q }, 0) := by
  have e : ∀ (q : ByteArray), mread q i s = if ende (text (number (number (ver (s, 0)) 4).2 8).2 32768).2 ≠ 0 then (ms0, ende (text (number (number (ver (s, 0)) 4).2 8).2 32768).2) else (⟨q, i, (number (ver (s, 0)) 4).1 % 2 ^ 32, (number (number (ver (s, 0)) 4).2 8).1, (text (number (number (ver (s, 0)) 4).2 8).2 32768).1⟩, 0) := fun _ => rfl
  rw [e] at h ⊢
  rw [e]
  generalize text (number (number (ver (s, 0)) 4).2 8).2 32768 = d at h ⊢
  by_cases h0 : ende d.2 ≠ 0
  · rw [if_pos h0] at h; exact (h0 h).elim
  · rw [if_neg h0, if_neg h0]
def Ms.bare (m : Ms) : Ms := { m with queue := e0 }
theorem bare_fine {m : Ms} (h : m.fit) : m.bare.fine := ⟨(by decide : e0.size ≤ 100), h.2.1, h.2.2.1, h.2.2.2.1, h.2.2.2.2⟩
theorem mbytes_bare (m : Ms) : mbytes m.bare = mbytes m := rfl
theorem mbytes_size2 (m : Ms) (h : m.fit) : (mbytes m).size ≤ 1017 := by
  have := mbytes_size m.bare (bare_fine h)
  rw [mbytes_bare] at this
  exact this
theorem mread_mbytes2 (m : Ms) (h : m.fit) : mread m.queue m.id ⟨(mbytes m).data.toList.toArray⟩ = (m, 0) := by
  have hx := mread_mbytes m.bare (bare_fine h)
  rw [mbytes_bare] at hx
  have e1 : m.bare.queue = e0 := rfl
  have e2 : m.bare.id = m.id := rfl
  rw [e1, e2] at hx
  rw [mread_queue m.queue e0 m.id _ (by rw [hx]), hx]
  rfl
theorem parse_tkey2 (a : Nat) (q : ByteArray) (n : Nat) (hl : (tkey a q n).length ≤ 255) (ha : a < 2 ^ 64) (hn : n < 2 ^ 64) : parseR ⟨(tkey a q n).toArray⟩ = ({ th0 with sort := ⟨#[101]⟩, at_ := a, queue := q, id := n }, 0) := by
  have hp := partsR_key (tL a q n) (tL_ok a q n ha hn) hl
  have h : fitsR [num' a, str q, num' n] (shapeR ⟨#[101]⟩) = true := by
    rw [show shapeR ⟨#[101]⟩ = ⟨#[110, 115, 110]⟩ by simp [shapeR, ByteArray.toList_eq]]
    simp [fitsR, fitsL, num', str]
    decide
  have hp' : partsR ⟨(tkey a q n).toArray⟩ = (tL a q n, 0) := hp
  unfold parseR
  rw [hp', if_neg (by simp)]
  show parseL (str ⟨#[101]⟩ :: [num' a, str q, num' n]) = _
  rw [parseL_cons, if_neg]
  · simp [thOf, ByteArray.toList_eq, str, num']
  · simp only [str] at h ⊢
    rw [h]; simp
theorem parse_mkey (q : ByteArray) (n : Nat) (hl : (mkey q n).length ≤ 255) (hn : n < 2 ^ 64) : parseR ⟨(mkey q n).toArray⟩ = ({ th0 with sort := ⟨#[109]⟩, queue := q, id := n }, 0) := by
  have hp := partsR_key (mL q n) (mL_ok q n hn) hl
  have h : fitsR [str q, num' n] (shapeR ⟨#[109]⟩) = true := by
    rw [show shapeR ⟨#[109]⟩ = ⟨#[115, 110]⟩ by simp [shapeR, ByteArray.toList_eq]]
    simp [fitsR, fitsL, num', str]
    decide
  have hp' : partsR ⟨(mkey q n).toArray⟩ = (mL q n, 0) := hp
  unfold parseR
  rw [hp', if_neg (by simp)]
  show parseL (str ⟨#[109]⟩ :: [str q, num' n]) = _
  rw [parseL_cons, if_neg]
  · simp [thOf, ByteArray.toList_eq, str, num']
  · simp only [str] at h ⊢
    rw [h]; simp

def mP (x : Ms) : List UInt8 × List UInt8 := (mkey x.queue x.id, (mbytes x).data.toList)
structure Rl (B : List Ms) (m : M) : Prop where
  fit : ∀ x ∈ B, x.fit
  sortB : B.Pairwise ltM
  sortM : SortedM m
  mem : ∀ p, p ∈ m ↔ (∃ x ∈ B, p = mP x) ∨ (∃ x ∈ B, x.expiry ≠ 0 ∧ p = tP x)
theorem Rl.nil : Rl [] [] := ⟨by simp, List.Pairwise.nil, List.Pairwise.nil, by simp⟩

def remL (q : ByteArray) (n : Nat) (B : List Ms) : List Ms := B.filter fun x => decide (¬ (x.queue = q ∧ x.id = n))
theorem mem_rem {q : ByteArray} {n : Nat} {B : List Ms} {x : Ms} : x ∈ remL q n B ↔ x ∈ B ∧ ¬ (x.queue = q ∧ x.id = n) := by
  unfold remL
  rw [List.mem_filter, decide_eq_true_eq]
theorem rem_none {q : ByteArray} {n : Nat} {B : List Ms} (h : ∀ x ∈ B, ¬ (x.queue = q ∧ x.id = n)) : remL q n B = B := by
  unfold remL
  rw [List.filter_eq_self]
  intro x hx
  exact decide_eq_true (h x hx)
theorem withoutL_find (q : ByteArray) (n : Nat) : ∀ (B : List Ms) (k : Nat), B.Pairwise ltM → ((B.zipIdx k).filter fun p => decide ((p.2 : Int) ≠ findL q n B k)).map (·.1) = remL q n B := by
  intro B
  induction B with
  | nil => intro k _; rfl
  | cons y r ih =>
    intro k h
    have h' := List.pairwise_cons.1 h
    rw [findL_cons, List.zipIdx_cons]
    by_cases hy : y.queue = q ∧ y.id = n
    · rw [if_pos hy, List.filter_cons_of_neg (by simp)]
      have hn : ∀ x ∈ r, ¬ (x.queue = q ∧ x.id = n) := by
        intro x hx e
        rcases h'.1 x hx with h1 | ⟨_, h1⟩
        · rw [hy.1, e.1] at h1; exact List.lt_irrefl _ h1
        · omega
      have e1 : remL q n (y :: r) = r := by
        have : remL q n (y :: r) = remL q n r := by unfold remL; rw [List.filter_cons_of_neg (by rw [decide_eq_true_eq]; exact fun x => x hy)]
        rw [this, rem_none hn]
      rw [e1, List.filter_eq_self.2, List.zipIdx_map_fst]
      intro p hp
      have := (List.mem_zipIdx hp).1
      simp only [ne_eq, decide_eq_true_eq]
      omega
    · rw [if_neg hy]
      have hb := findL_bound q n r (k + 1)
      rw [List.filter_cons_of_pos, List.map_cons, ih (k + 1) h'.2]
      · unfold remL; rw [List.filter_cons_of_pos (p := fun x : Ms => decide (¬ (x.queue = q ∧ x.id = n))) (decide_eq_true hy)]
      · simp only [ne_eq, decide_eq_true_eq]
        omega
theorem without_rem {q : ByteArray} {n : Nat} {B : List Ms} (h : B.Pairwise ltM) : withoutL (findL q n B 0) B = remL q n B := withoutL_find q n B 0 h
theorem rem_sorted {q : ByteArray} {n : Nat} {B : List Ms} (h : B.Pairwise ltM) : (remL q n B).Pairwise ltM := List.Pairwise.filter _ h

theorem Rl.look {B : List Ms} {m : M} (h : Rl B m) {x : Ms} (hx : x ∈ B) : lookM (mkey x.queue x.id) m = some (mbytes x).data.toList :=
  look_mem h.sortM (p := mP x) ((h.mem _).2 (.inl ⟨x, hx, rfl⟩))
theorem Rl.look_none {B : List Ms} {m : M} (h : Rl B m) {q : ByteArray} {n : Nat} (hl : (mkey q n).length ≤ 255) (hn : n < 2 ^ 64) (hno : ∀ x ∈ B, ¬ (x.queue = q ∧ x.id = n)) : lookM (mkey q n) m = none := by
  refine Go.Oct.look_none ?_
  intro p hp e
  rcases (h.mem p).1 hp with ⟨x, hx, rfl⟩ | ⟨x, hx, _, rfl⟩
  · have := mkey_inj2 hl hn (h.fit x hx).2.1 e.symm
    exact hno x hx ⟨this.1.symm, this.2.symm⟩
  · exact mkey_ne_tkey _ _ _ _ _ e.symm

/-! what is put, what is cut -/
def putX (x : Ms) (m : M) : M := if x.expiry = 0 then putM (mkey x.queue x.id) (mbytes x).data.toList m else putM (tk x) [] (putM (mkey x.queue x.id) (mbytes x).data.toList m)
def cutX (x : Ms) (m : M) : M := if x.expiry = 0 then delM (mkey x.queue x.id) m else delM (tk x) (delM (mkey x.queue x.id) m)

theorem Rl.put {B : List Ms} {m : M} (h : Rl B m) {x : Ms} (hx : x.fit) (he : ∀ y ∈ B, y.queue = x.queue → y.id = x.id → y.expiry = x.expiry) : Rl (insR x (remL x.queue x.id B)) (putX x m) := by
  have hmem : ∀ y, y ∈ insR x (remL x.queue x.id B) ↔ y = x ∨ (y ∈ B ∧ ¬ (y.queue = x.queue ∧ y.id = x.id)) := fun y => by rw [insR_mem, mem_rem]
  have m1 : ∀ y ∈ B, mkey y.queue y.id = mkey x.queue x.id ↔ (y.queue = x.queue ∧ y.id = x.id) := fun y hy =>
    ⟨fun e => mkey_inj2 (h.fit y hy).1.1 (h.fit y hy).2.1 hx.2.1 e, fun e => by rw [e.1, e.2]⟩
  have t1 : ∀ y ∈ B, y.expiry ≠ 0 → tk y = tk x → (y.queue = x.queue ∧ y.id = x.id) := fun y hy h0 e => by
    have := tkey_inj2 ((h.fit y hy).1.2 h0) (h.fit y hy).2.2.1 hx.2.2.1 (h.fit y hy).2.1 hx.2.1 e
    exact this.2
  refine ⟨?_, insR_sorted (rem_sorted h.sortB) (fun a ha e => (mem_rem.1 ha).2 e), ?_, ?_⟩
  · intro y hy
    rcases (hmem y).1 hy with rfl | hy
    · exact hx
    · exact h.fit y hy.1
  · unfold putX
    split
    · exact sorted_put h.sortM
    · exact sorted_put (sorted_put h.sortM)
  · intro p
    unfold putX
    by_cases h0 : x.expiry = 0
    · rw [if_pos h0, mem_put, h.mem]
      constructor
      · rintro (hp | ⟨⟨y, hy, rfl⟩ | ⟨y, hy, h1, rfl⟩, hne⟩)
        · exact .inl ⟨x, (hmem x).2 (.inl rfl), hp⟩
        · exact .inl ⟨y, (hmem y).2 (.inr ⟨hy, fun e => hne ((m1 y hy).2 e)⟩), rfl⟩
        · exact .inr ⟨y, (hmem y).2 (.inr ⟨hy, fun e => h1 ((he y hy e.1 e.2).trans h0)⟩), h1, rfl⟩
      · rintro (⟨y, hy, rfl⟩ | ⟨y, hy, h1, rfl⟩)
        · rcases (hmem y).1 hy with rfl | ⟨hy, hne⟩
          · exact .inl rfl
          · exact .inr ⟨.inl ⟨y, hy, rfl⟩, fun e => hne ((m1 y hy).1 e)⟩
        · rcases (hmem y).1 hy with rfl | ⟨hy, hne⟩
          · exact (h1 h0).elim
          · exact .inr ⟨.inr ⟨y, hy, h1, rfl⟩, fun e => mkey_ne_tkey _ _ _ _ _ e.symm⟩
    · rw [if_neg h0, mem_put, mem_put, h.mem]
      constructor
      · rintro (hp | ⟨hp | ⟨⟨y, hy, rfl⟩ | ⟨y, hy, h1, rfl⟩, hne⟩, hne2⟩)
        · exact .inr ⟨x, (hmem x).2 (.inl rfl), h0, hp⟩
        · exact .inl ⟨x, (hmem x).2 (.inl rfl), hp⟩
        · exact .inl ⟨y, (hmem y).2 (.inr ⟨hy, fun e => hne ((m1 y hy).2 e)⟩), rfl⟩
        · refine .inr ⟨y, (hmem y).2 (.inr ⟨hy, fun e => hne2 ?_⟩), h1, rfl⟩
          show tkey y.expiry y.queue y.id = tkey x.expiry x.queue x.id
          rw [e.1, e.2, he y hy e.1 e.2]
      · rintro (⟨y, hy, rfl⟩ | ⟨y, hy, h1, rfl⟩)
        · refine .inr ⟨?_, fun e => mkey_ne_tkey _ _ _ _ _ e⟩
          rcases (hmem y).1 hy with rfl | ⟨hy, hne⟩
          · exact .inl rfl
          · exact .inr ⟨.inl ⟨y, hy, rfl⟩, fun e => hne ((m1 y hy).1 e)⟩
        · rcases (hmem y).1 hy with rfl | ⟨hy, hne⟩
          · exact .inl rfl
          · exact .inr ⟨.inr ⟨.inr ⟨y, hy, h1, rfl⟩, fun e => mkey_ne_tkey _ _ _ _ _ e.symm⟩, fun e => hne (t1 y hy h1 e)⟩

theorem Rl.cut {B : List Ms} {m : M} (h : Rl B m) {x : Ms} (hx : x ∈ B) : Rl (remL x.queue x.id B) (cutX x m) := by
  have hxf := h.fit x hx
  have m1 : ∀ y ∈ B, mkey y.queue y.id = mkey x.queue x.id ↔ (y.queue = x.queue ∧ y.id = x.id) := fun y hy =>
    ⟨fun e => mkey_inj2 (h.fit y hy).1.1 (h.fit y hy).2.1 hxf.2.1 e, fun e => by rw [e.1, e.2]⟩
  have t1 : ∀ y ∈ B, y.expiry ≠ 0 → tk y = tk x → (y.queue = x.queue ∧ y.id = x.id) := fun y hy h0 e => by
    have := tkey_inj2 ((h.fit y hy).1.2 h0) (h.fit y hy).2.2.1 hxf.2.2.1 (h.fit y hy).2.1 hxf.2.1 e
    exact this.2
  refine ⟨fun y hy => h.fit y (mem_rem.1 hy).1, rem_sorted h.sortB, ?_, ?_⟩
  · unfold cutX
    split
    · exact sorted_del h.sortM
    · exact sorted_del (sorted_del h.sortM)
  · intro p
    unfold cutX
    by_cases h0 : x.expiry = 0
    · rw [if_pos h0, mem_del, h.mem]
      constructor
      · rintro ⟨⟨y, hy, rfl⟩ | ⟨y, hy, h1, rfl⟩, hne⟩
        · exact .inl ⟨y, mem_rem.2 ⟨hy, fun e => hne ((m1 y hy).2 e)⟩, rfl⟩
        · refine .inr ⟨y, mem_rem.2 ⟨hy, fun e => ?_⟩, h1, rfl⟩
          have := uniq_of_sorted h.sortB hy hx e.1 e.2
          rw [this] at h1; exact h1 h0
      · rintro (⟨y, hy, rfl⟩ | ⟨y, hy, h1, rfl⟩)
        · exact ⟨.inl ⟨y, (mem_rem.1 hy).1, rfl⟩, fun e => (mem_rem.1 hy).2 ((m1 y (mem_rem.1 hy).1).1 e)⟩
        · exact ⟨.inr ⟨y, (mem_rem.1 hy).1, h1, rfl⟩, fun e => mkey_ne_tkey _ _ _ _ _ e.symm⟩
    · rw [if_neg h0, mem_del, mem_del, h.mem]
      constructor
      · rintro ⟨⟨⟨y, hy, rfl⟩ | ⟨y, hy, h1, rfl⟩, hne⟩, hne2⟩
        · exact .inl ⟨y, mem_rem.2 ⟨hy, fun e => hne ((m1 y hy).2 e)⟩, rfl⟩
        · refine .inr ⟨y, mem_rem.2 ⟨hy, fun e => hne2 ?_⟩, h1, rfl⟩
          have := uniq_of_sorted h.sortB hy hx e.1 e.2
          rw [this]; rfl
      · rintro (⟨y, hy, rfl⟩ | ⟨y, hy, h1, rfl⟩)
        · exact ⟨⟨.inl ⟨y, (mem_rem.1 hy).1, rfl⟩, fun e => (mem_rem.1 hy).2 ((m1 y (mem_rem.1 hy).1).1 e)⟩, fun e => mkey_ne_tkey _ _ _ _ _ e⟩
        · exact ⟨⟨.inr ⟨y, (mem_rem.1 hy).1, h1, rfl⟩, fun e => mkey_ne_tkey _ _ _ _ _ e.symm⟩, fun e => (mem_rem.1 hy).2 (t1 y (mem_rem.1 hy).1 h1 e)⟩

end Go.Oct

namespace Go.Oct
open Go Go.Vc Go.VrA Go.VrB Go.VrC Go.VrE
set_option maxRecDepth 100000

/-! ### plain: each call on the shelf is what the box does -/

def Ms.anyB (x : Ms) : Prop := x.id < 2 ^ 64 ∧ x.expiry < 2 ^ 64 ∧ x.tries < 2 ^ 32 ∧ x.body.size ≤ 1000
theorem emptyT (x : Ms) : emptyB (if x.expiry = 0 then e0 else (⟨(tkey x.expiry x.queue x.id).toArray⟩ : ByteArray)) = decide (x.expiry = 0) := by
  by_cases h : x.expiry = 0
  · rw [if_pos h, decide_eq_true h]; simp [emptyB, e0, ByteArray.toList_eq]
  · rw [if_neg h, decide_eq_false h, emptyB_false (tkey_eq _ _ _)]

theorem mput_shelf (sb mb : Nat) (h0 : 0 ≠ mb) (c : Nat) (m : M) (x : Ms) (hx : x.fit) : ∃ c', (shelf sb mb h0).mput (c, m) x = (0, (c', putX x m)) ∧ c' ≤ c + 2 := by
  have hbs := mbytes_size2 x hx
  have hp1 := shelf_put sb mb h0 c m (mkey x.queue x.id) (mbytes x) hx.1.1 (by omega)
  unfold Sto.mput
  rw [keysR_fit hx.1]
  simp only [hp1, ne_eq, not_true_eq_false, if_false, false_or, emptyT]
  unfold putX
  by_cases he : x.expiry = 0
  · rw [if_pos (decide_eq_true he), if_pos he]
    exact ⟨_, rfl, by omega⟩
  · have hp2 := shelf_put sb mb h0 (c + 1) (putM (mkey x.queue x.id) (mbytes x).data.toList m) (tkey x.expiry x.queue x.id) ⟨#[]⟩ (hx.1.2 he) (by decide)
    rw [if_neg (by simpa using he), if_neg he, if_neg he, hp2]
    exact ⟨_, rfl, by omega⟩

theorem shelf_cut (sb mb : Nat) (h0 : 0 ≠ mb) (c : Nat) (m : M) (k : List UInt8) : (shelfC sb mb h0).cut (c, m) ⟨k.toArray⟩ = (((lookM k m).isSome, 0), (c, delM k m)) := rfl
theorem mcut_shelf (sb mb : Nat) (h0 : 0 ≠ mb) (c : Nat) (m : M) (x : Ms) (hx : x.lens) : (shelfC sb mb h0).mcut (c, m) x = (0, (c, cutX x m)) := by
  unfold StoC.mcut
  rw [keysR_fit hx]
  simp only [shelf_cut, ne_eq, not_true_eq_false, if_false, false_or, emptyT]
  unfold cutX
  by_cases he : x.expiry = 0
  · rw [if_pos (decide_eq_true he), if_pos he]
  · rw [if_neg (by simpa using he), if_neg he, if_neg he, shelf_cut]; rfl

theorem mget_shelf (sb mb : Nat) (h0 : 0 ≠ mb) (c : Nat) {B : List Ms} {m : M} (h : Rl B m) {y : Ms} (hy : y ∈ B) : (shelf sb mb h0).mgetR (c, m) y.queue y.id = (y, 0) := by
  have hyf := h.fit y hy
  have hl := h.look hy
  have hg : (shelf sb mb h0).get (c, m) ⟨(mkey y.queue y.id).toArray⟩ = ((⟨(mbytes y).data.toList.toArray⟩, true, 0), (c, m)) := by
    rw [shelf_get, hl]; rfl
  unfold Sto.mgetR mfound
  rw [messageK_if, if_pos hyf.1.1]
  simp only [hg, ne_eq, not_true_eq_false, if_false, Bool.true_eq_false]
  exact mread_mbytes2 y hyf
theorem mget_shelf_none (sb mb : Nat) (h0 : 0 ≠ mb) (c : Nat) {B : List Ms} {m : M} (h : Rl B m) {q : ByteArray} {n : Nat} (hn : n < 2 ^ 64) (hno : ∀ y ∈ B, ¬ (y.queue = q ∧ y.id = n)) : (shelf sb mb h0).mgetR (c, m) q n = (ms0, 21) := by
  unfold Sto.mgetR mfound
  rw [messageK_if]
  by_cases hl : (mkey q n).length ≤ 255
  · have hg : (shelf sb mb h0).get (c, m) ⟨(mkey q n).toArray⟩ = ((⟨#[]⟩, false, 0), (c, m)) := by
      rw [shelf_get, h.look_none hl hn hno]; rfl
    rw [if_pos hl]
    simp only [hg, ne_eq, not_true_eq_false, if_false, if_true]
  · rw [if_neg hl]; simp

theorem find_none {q : ByteArray} {n : Nat} {B : List Ms} (h : ¬ findL q n B 0 ≥ 0) : ∀ y ∈ B, ¬ (y.queue = q ∧ y.id = n) := fun y hy e => h ((findL_iff _ _ _ _).2 ⟨y, hy, e⟩)

theorem add_shelf (sb mb : Nat) (h0 : 0 ≠ mb) (c : Nat) (m : M) (B : List Ms) (x : Ms) (h : Rl B m) (hx : x.anyB) : ∃ c' m', (shelf sb mb h0).madd (c, m) x = ((addR x B).2, (c', m')) ∧ c' ≤ c + 2 ∧ Rl (addR x B).1 m' := by
  unfold Sto.madd addR
  by_cases hl : x.lens
  · have hxf : x.fit := ⟨hl, hx⟩
    rw [keysR_fit hl]
    simp only [ne_eq, not_true_eq_false, if_false]
    by_cases hf : findL x.queue x.id B 0 ≥ 0
    · obtain ⟨y, hy, e1, e2⟩ := (findL_iff _ _ _ _).1 hf
      have := h.look hy
      rw [e1, e2] at this
      have hg : (shelf sb mb h0).get (c, m) ⟨(mkey x.queue x.id).toArray⟩ = ((⟨(mbytes y).data.toList.toArray⟩, true, 0), (c, m)) := by rw [shelf_get, this]; rfl
      rw [if_pos hf]
      simp only [hg]
      exact ⟨c, m, by simp, by omega, h⟩
    · have hno := find_none hf
      have hg : (shelf sb mb h0).get (c, m) ⟨(mkey x.queue x.id).toArray⟩ = ((⟨#[]⟩, false, 0), (c, m)) := by rw [shelf_get, h.look_none hl.1 hx.1 hno]; rfl
      obtain ⟨c', e, hc⟩ := mput_shelf sb mb h0 c m x hxf
      rw [if_neg hf]
      simp only [hg]
      refine ⟨c', putX x m, ?_, hc, ?_⟩
      · rw [if_neg (by simp), if_neg (by simp), e]
      · have := h.put hxf (fun y hy e1 e2 => (hno y hy ⟨e1, e2⟩).elim)
        rw [rem_none hno] at this
        exact this
  · have hk := keysR_unfit hl
    rw [hk, if_pos (by simp), if_pos (by simp)]
    exact ⟨c, m, rfl, by omega, h⟩

theorem save_shelf (sb mb : Nat) (h0 : 0 ≠ mb) (c : Nat) (m : M) (B : List Ms) (x : Ms) (h : Rl B m) (hx : x.anyB) : ∃ c' m', (shelfC sb mb h0).msave (c, m) x = ((saveR x B).2, (c', m')) ∧ c' ≤ c + 2 ∧ Rl (saveR x B).1 m' := by
  unfold StoC.msave saveR
  by_cases hf : findL x.queue x.id B 0 ≥ 0
  · obtain ⟨y, hy, e1, e2⟩ := (findL_iff _ _ _ _).1 hf
    have hg := mget_shelf sb mb h0 c h hy
    rw [e1, e2] at hg
    have hg : (shelfC sb mb h0).toSto.mgetR (c, m) x.queue x.id = (y, 0) := hg
    rw [if_neg (show ¬ findL x.queue x.id B 0 < 0 by omega), without_rem h.sortB, hg]
    simp only [ne_eq, not_true_eq_false, if_false]
    by_cases hl : x.lens
    · have hxf : x.fit := ⟨hl, hx⟩
      rw [keysR_fit hl]
      simp only [not_true_eq_false, if_false]
      by_cases hex : y.expiry = x.expiry
      · rw [if_pos hex]
        obtain ⟨c', e, hc⟩ := mput_shelf sb mb h0 c m x hxf
        refine ⟨c', putX x m, e, hc, h.put hxf ?_⟩
        intro z hz f1 f2
        have : z = y := uniq_of_sorted h.sortB hz hy (f1.trans e1.symm) (f2.trans e2.symm)
        rw [this, hex]
      · rw [if_neg hex, mcut_shelf sb mb h0 c m y (h.fit y hy).1]
        simp only [not_true_eq_false, if_false]
        have hcut := h.cut hy
        rw [e1, e2] at hcut
        obtain ⟨c', e, hc⟩ := mput_shelf sb mb h0 c (cutX y m) x hxf
        refine ⟨c', putX x (cutX y m), e, hc, ?_⟩
        have := hcut.put hxf (fun z hz f1 f2 => ((mem_rem.1 hz).2 ⟨f1, f2⟩).elim)
        rw [rem_none (B := remL x.queue x.id B) (fun z hz => (mem_rem.1 hz).2)] at this
        exact this
    · have hk := keysR_unfit hl
      rw [hk, if_pos (by simp), if_pos (by simp)]
      exact ⟨c, m, rfl, by omega, h⟩
  · have hg : (shelfC sb mb h0).toSto.mgetR (c, m) x.queue x.id = (ms0, 21) := mget_shelf_none sb mb h0 c h hx.1 (find_none hf)
    rw [if_pos (show findL x.queue x.id B 0 < 0 by omega), hg]
    exact ⟨c, m, by simp, by omega, h⟩

theorem take_shelf (sb mb : Nat) (h0 : 0 ≠ mb) (c : Nat) (m : M) (B : List Ms) (q : ByteArray) (n : Nat) (h : Rl B m) (hn : n < 2 ^ 64) : ∃ m', (shelfC sb mb h0).mtake (c, m) q n = ((takeR q n B).2, (c, m')) ∧ Rl (takeR q n B).1 m' := by
  unfold StoC.mtake takeR
  by_cases hf : findL q n B 0 ≥ 0
  · obtain ⟨k, y, hk, hy, e1, e2⟩ := findL_get _ _ _ _ hf
    have hyB := List.mem_of_getElem? hy
    have hg := mget_shelf sb mb h0 c h hyB
    rw [e1, e2] at hg
    have hg : (shelfC sb mb h0).toSto.mgetR (c, m) q n = (y, 0) := hg
    rw [if_neg (show ¬ findL q n B 0 < 0 by omega), without_rem h.sortB, hg]
    simp only [ne_eq, not_true_eq_false, if_false, mcut_shelf sb mb h0 c m y (h.fit y hyB).1]
    have hcut := h.cut hyB
    rw [e1, e2] at hcut
    have hk' : findL q n B 0 = (k : Int) := by rw [hk, Nat.zero_add]
    rw [hk', Int.toNat_natCast, hy]
    exact ⟨cutX y m, rfl, hcut⟩
  · have hg : (shelfC sb mb h0).toSto.mgetR (c, m) q n = (ms0, 21) := mget_shelf_none sb mb h0 c h hn (find_none hf)
    rw [if_pos (show findL q n B 0 < 0 by omega), hg]
    exact ⟨m, by simp, h⟩

def moveR (x y : Ms) (B : List Ms) : List Ms × Int :=
  if (takeR x.queue x.id B).2.2 = 0 then addR y (takeR x.queue x.id B).1 else ((takeR x.queue x.id B).1, (takeR x.queue x.id B).2.2)
theorem move_shelf (sb mb : Nat) (h0 : 0 ≠ mb) (c : Nat) (m : M) (B : List Ms) (x y : Ms) (h : Rl B m) (hx : x.id < 2 ^ 64) (hy : y.anyB) : ∃ c' m', (shelfC sb mb h0).mmove (c, m) x y = ((moveR x y B).2, (c', m')) ∧ c' ≤ c + 2 ∧ Rl (moveR x y B).1 m' := by
  obtain ⟨m1, e1, h1⟩ := take_shelf sb mb h0 c m B x.queue x.id h hx
  unfold StoC.mmove moveR
  rw [e1]
  by_cases he : (takeR x.queue x.id B).2.2 = 0
  · rw [if_neg (by simpa using he), if_pos he]
    exact add_shelf sb mb h0 c m1 _ y h1 hy
  · rw [if_pos (by simpa using he), if_neg he]
    exact ⟨c, m1, rfl, by omega, h1⟩

/-! ### rows -/
theorem esc_lt_end : ∀ (s t X : List UInt8), (esc s ++ 0 :: 0 :: X < esc t ++ [0, 1]) ↔ (s < t ∨ s = t) := by
  intro s
  induction s with
  | nil =>
    intro t X
    cases t with
    | nil =>
      show (0 :: 0 :: X < [0, 1]) ↔ _
      simp [List.cons_lt_cons_iff]
    | cons d t =>
      rw [esc_cons]
      by_cases hd : d = 0
      · subst hd
        show (0 :: 0 :: X < 0 :: 255 :: (esc t ++ [0, 1])) ↔ _
        simp only [List.cons_lt_cons_iff]
        exact ⟨fun _ => .inl (List.nil_lt_cons _ _), fun _ => .inr ⟨trivial, .inl (by decide)⟩⟩
      · have e : (if d = 0 then [0, 255] else [d]) ++ esc t ++ [0, 1] = d :: (esc t ++ [0, 1]) := by simp [hd]
        rw [e]
        show (0 :: 0 :: X < d :: (esc t ++ [0, 1])) ↔ _
        rw [List.cons_lt_cons_iff]
        have h0 : (0 : UInt8) < d := by
          rw [UInt8.lt_iff_toNat_lt]
          have : d.toNat ≠ 0 := fun x => hd (UInt8.toNat_inj.1 (by simpa using x))
          show 0 < d.toNat
          omega
        exact ⟨fun _ => .inl (List.nil_lt_cons _ _), fun _ => .inl h0⟩
  | cons c s ih =>
    intro t X
    cases t with
    | nil =>
      rw [esc_cons]
      have hf : ¬ (c :: s < ([] : List UInt8) ∨ c :: s = []) := by
        rintro (h | h)
        · exact List.not_lt_nil _ h
        · cases h
      by_cases hc : c = 0
      · subst hc
        show (0 :: 255 :: (esc s ++ 0 :: 0 :: X) < [0, 1]) ↔ _
        simp only [List.cons_lt_cons_iff]
        exact ⟨fun h => by
          rcases h with h | ⟨_, h | ⟨h, _⟩⟩
          · exact absurd h (by decide)
          · exact absurd h (by decide)
          · exact absurd h (by decide), fun h => (hf h).elim⟩
      · have e : (if c = 0 then [0, 255] else [c]) ++ esc s ++ 0 :: 0 :: X = c :: (esc s ++ 0 :: 0 :: X) := by simp [hc]
        rw [e]
        show (c :: (esc s ++ 0 :: 0 :: X) < [0, 1]) ↔ _
        rw [List.cons_lt_cons_iff]
        exact ⟨fun h => by
          rcases h with h | ⟨h, _⟩
          · rw [UInt8.lt_iff_toNat_lt] at h
            exact absurd h (by show ¬ c.toNat < 0; omega)
          · exact (hc h).elim, fun h => (hf h).elim⟩
    | cons d t =>
      rw [esc_cons, esc_cons, List.cons_lt_cons_iff]
      by_cases hcd : c = d
      · subst hcd
        have hl : ((if c = 0 then [0, 255] else [c]) ++ esc s ++ 0 :: 0 :: X < (if c = 0 then [0, 255] else [c]) ++ esc t ++ [0, 1]) ↔ (esc s ++ 0 :: 0 :: X < esc t ++ [0, 1]) := by
          by_cases hc : c = 0
          · simp [hc]
          · simp [hc]
        rw [hl, ih]
        constructor
        · rintro (h | rfl)
          · exact .inl (.inr ⟨rfl, h⟩)
          · exact .inr rfl
        · rintro ((h | ⟨_, h⟩) | h)
          · exact absurd h (by rw [UInt8.lt_iff_toNat_lt]; omega)
          · exact .inl h
          · exact .inr (List.cons.inj h).2
      · have hne : ¬ (c :: s = d :: t) := fun h => hcd (List.cons.inj h).1
        have hr : ((c < d ∨ c = d ∧ s < t) ∨ c :: s = d :: t) ↔ c < d := by
          constructor
          · rintro ((h | ⟨h, _⟩) | h)
            · exact h
            · exact (hcd h).elim
            · exact (hne h).elim
          · exact fun h => .inl (.inl h)
        rw [hr]
        by_cases hc : c = 0
        · subst hc
          have hd : ¬ d = 0 := fun x => hcd x.symm
          have e : (if d = 0 then [0, 255] else [d]) ++ esc t ++ [0, 1] = d :: (esc t ++ [0, 1]) := by simp [hd]
          rw [e]
          show (0 :: 255 :: (esc s ++ 0 :: 0 :: X) < d :: (esc t ++ [0, 1])) ↔ _
          rw [List.cons_lt_cons_iff]
          exact ⟨fun h => h.elim id (fun x => (hd x.1.symm).elim), .inl⟩
        · by_cases hd : d = 0
          · subst hd
            have e : (if c = 0 then [0, 255] else [c]) ++ esc s ++ 0 :: 0 :: X = c :: (esc s ++ 0 :: 0 :: X) := by simp [hc]
            rw [e]
            show (c :: (esc s ++ 0 :: 0 :: X) < 0 :: 255 :: (esc t ++ [0, 1])) ↔ _
            rw [List.cons_lt_cons_iff]
            exact ⟨fun h => h.elim id (fun x => (hc x.1).elim), .inl⟩
          · have e : (if c = 0 then [0, 255] else [c]) ++ esc s ++ 0 :: 0 :: X = c :: (esc s ++ 0 :: 0 :: X) := by simp [hc]
            have e' : (if d = 0 then [0, 255] else [d]) ++ esc t ++ [0, 1] = d :: (esc t ++ [0, 1]) := by simp [hd]
            rw [e, e', List.cons_lt_cons_iff]
            exact ⟨fun h => h.elim id (fun x => (hcd x.1).elim), .inl⟩

/-- where a queue's messages end. -/
def mHi (q : ByteArray) : List UInt8 := 2 :: 109 :: 0 :: 0 :: 2 :: (esc q.data.toList ++ [0, 1])
theorem under_mq (q : ByteArray) (hl : (mkey q 0).length ≤ 255) : (underK ⟨#[109]⟩ [str q]).2 = ⟨(mHi q).toArray⟩ := by
  have e : keyB [str ⟨#[109]⟩, str q] = 2 :: 109 :: 0 :: 0 :: 2 :: (esc q.data.toList ++ [0]) ++ [0] := by
    show (str ⟨#[109]⟩).bytes ++ ((str q).bytes ++ []) = _
    rw [str_bytes, str_bytes, List.append_nil]
    have e : (esc (⟨#[109]⟩ : ByteArray).data.toList) = [109] := rfl
    rw [e]; simp
  have hk : keyL [str ⟨#[109]⟩, str q] [] = (⟨(2 :: 109 :: 0 :: 0 :: 2 :: (esc q.data.toList ++ [0]) ++ [0]).toArray⟩, 0) := by
    rw [keyL_nil, e, if_pos]
    rw [mkey_length] at hl
    simp only [List.length_cons, List.length_append, List.length_nil]; omega
  unfold underK
  rw [hk, if_neg (by simp)]
  show (after ⟨(2 :: 109 :: 0 :: 0 :: 2 :: (esc q.data.toList ++ [0]) ++ [0]).toArray⟩).1 = _
  generalize hP : 2 :: 109 :: 0 :: 0 :: 2 :: (esc q.data.toList ++ [0]) = P
  have hP' : mHi q = P ++ [1] := by rw [← hP]; simp [mHi]
  rw [hP']
  have hs : (⟨(P ++ [0]).toArray⟩ : ByteArray).size = P.length + 1 := by simp [ByteArray.size]
  unfold after
  rw [hs]
  unfold afterN
  have hg : (⟨(P ++ [0]).toArray⟩ : ByteArray).data[P.length]? = some 0 := by simp
  rw [hg, if_pos (by decide)]
  have hx : (⟨(P ++ [0]).toArray⟩ : ByteArray).extract 0 P.length = ⟨P.toArray⟩ := by
    apply ByteArray.ext
    rw [ByteArray.data_extract]
    apply Array.ext'
    simp
  rw [hx]
  apply ByteArray.ext
  apply Array.ext'
  simp only [ByteArray.data_append, Array.toList_append, big_toList]
  rfl

theorem inR_list (q q' : ByteArray) (n n' : Nat) (v : List UInt8) (hn : n < 2 ^ 64) (hn' : n' < 2 ^ 64) : inR (mkey q n) (mHi q) (mkey q' n', v) = decide (q' = q ∧ n ≤ n') := by
  have hb : (mHi q == []) = false := rfl
  have h1 : mkey q' n' < mkey q n ↔ (q'.data.toList < q.data.toList ∨ (q' = q ∧ n' < n)) := by
    rw [mkey_eq, mkey_eq, cons_lt_same, cons_lt_same, cons_lt_same, cons_lt_same, rest_lt _ _ _ _ hn' hn]
  have h2 : mkey q' n' < mHi q ↔ (q'.data.toList < q.data.toList ∨ q'.data.toList = q.data.toList) := by
    have e : keyB [str q', num' n'] = 2 :: (esc q'.data.toList ++ 0 :: 0 :: keyB [num' n']) := by
      show (str q').bytes ++ keyB [num' n'] = _
      rw [str_bytes]; simp
    unfold mHi
    rw [mkey_eq, cons_lt_same, cons_lt_same, cons_lt_same, cons_lt_same, e, cons_lt_same, esc_lt_end]
  unfold inR
  rw [hb, Go.Proofs.bytesLess_eq, Go.Proofs.bytesLess_eq]
  simp only [h1, h2, Bool.not_false, Bool.true_and]
  by_cases hq : q' = q
  · subst hq
    by_cases hc : n ≤ n'
    · have : ¬ n' < n := by omega
      simp [List.lt_irrefl, this, hc]
    · have : n' < n := by omega
      simp [this, hc]
  · have hne : ¬ q'.data.toList = q.data.toList := fun e => hq (q_ext e)
    by_cases hlt : q'.data.toList < q.data.toList
    · simp [hlt, hq]
    · simp [hlt, hq, hne]
theorem inR_list_t (q : ByteArray) (n : Nat) (a : Nat) (q' : ByteArray) (n' : Nat) (v : List UInt8) : inR (mkey q n) (mHi q) (tkey a q' n', v) = false := by
  have h1 : tkey a q' n' < mkey q n := by
    rw [mkey_eq, tkey_eq, cons_lt_same, List.cons_lt_cons_iff]
    exact .inl (by decide)
  unfold inR
  rw [Go.Proofs.bytesLess_eq]
  simp [h1]

theorem mP_sorted {D : List Ms} (h : D.Pairwise ltM) (hf : ∀ x ∈ D, x.id < 2 ^ 64) : SortedM (D.map mP) := by
  unfold SortedM
  rw [List.pairwise_map]
  refine List.Pairwise.imp_of_mem ?_ h
  intro a b ha hb hab
  show mkey a.queue a.id < mkey b.queue b.id
  rw [mkey_eq, mkey_eq, cons_lt_same, cons_lt_same, cons_lt_same, cons_lt_same, rest_lt _ _ _ _ (hf a ha) (hf b hb)]
  exact hab
theorem tP_sorted2 {D : List Ms} (h : D.Pairwise ltT) (hf : ∀ x ∈ D, x.id < 2 ^ 64 ∧ x.expiry < 2 ^ 64) : SortedM (D.map tP) := by
  unfold SortedM
  rw [List.pairwise_map]
  refine List.Pairwise.imp_of_mem ?_ h
  intro a b ha hb hab
  exact (tkey_lt a b (hf a ha).2 (hf b hb).2 (hf a ha).1 (hf b hb).1).2 hab

theorem rng_list {B : List Ms} {m : M} (h : Rl B m) (q : ByteArray) (n : Nat) (hn : n < 2 ^ 64) : rngM (mkey q n) (mHi q) m = (fromL q n B).map mP := by
  have hf : ∀ x, x ∈ fromL q n B ↔ x ∈ B ∧ (x.queue = q ∧ n ≤ x.id) := fun x => by unfold fromL; rw [List.mem_filter]; simp
  refine sorted_ext (List.Pairwise.filter _ h.sortM) (mP_sorted (List.Pairwise.filter _ h.sortB) (fun x hx => (h.fit x ((hf x).1 hx).1).2.1)) ?_
  intro p
  unfold rngM
  rw [List.mem_filter, h.mem, List.mem_map]
  constructor
  · rintro ⟨⟨x, hx, rfl⟩ | ⟨x, hx, h1, rfl⟩, hin⟩
    · have hin : inR (mkey q n) (mHi q) (mkey x.queue x.id, (mbytes x).data.toList) = true := hin
      rw [inR_list _ _ _ _ _ hn (h.fit x hx).2.1] at hin
      exact ⟨x, (hf x).2 ⟨hx, of_decide_eq_true hin⟩, rfl⟩
    · have hin : inR (mkey q n) (mHi q) (tkey x.expiry x.queue x.id, []) = true := hin
      rw [inR_list_t] at hin; cases hin
  · rintro ⟨x, hx, rfl⟩
    obtain ⟨h1, h2⟩ := (hf x).1 hx
    refine ⟨.inl ⟨x, h1, rfl⟩, ?_⟩
    show inR (mkey q n) (mHi q) (mkey x.queue x.id, (mbytes x).data.toList) = true
    rw [inR_list _ _ _ _ _ hn (h.fit x h1).2.1]
    exact decide_eq_true h2

theorem lgot_mP (x : Ms) (hx : x.fit) : lgot (mP x, 0) = (x, 0) := by
  unfold lgot mP
  rw [if_neg (by simp)]
  simp only [parse_mkey x.queue x.id hx.1.1 hx.2.1]
  rw [if_neg (by simp)]
  exact mread_mbytes2 x hx
theorem rowL_map : ∀ (D : List Ms), (∀ x ∈ D, x.fit) → rowL (okRows (D.map mP)) = D.map fun y => (y, (0 : Int)) := by
  intro D
  induction D with
  | nil => intro _; rfl
  | cons x D ih =>
    intro h
    have := lgot_mP x (h x (by simp))
    show rowL ((mP x, 0) :: okRows (D.map mP)) = _
    rw [rowL_cons, this, if_neg (by simp), ih (fun y hy => h y (by simp [hy]))]
    rfl

theorem list_shelf (sb mb : Nat) (h0 : 0 ≠ mb) (c : Nat) {B : List Ms} {m : M} (h : Rl B m) (q : ByteArray) (n : Nat) (hn : n < 2 ^ 64) : (shelf sb mb h0).listRows (c, m) q n = (fromL q n B).map fun y => (y, (0 : Int)) := by
  have hlen : (mkey q n).length = (mkey q 0).length := by rw [mkey_length, mkey_length]
  have hf : ∀ x, x ∈ fromL q n B → x ∈ B ∧ (x.queue = q ∧ n ≤ x.id) := fun x hx => by unfold fromL at hx; rw [List.mem_filter] at hx; simpa using hx
  unfold Sto.listRows boundsL
  rw [messageK_if]
  by_cases hl : (mkey q n).length ≤ 255
  · rw [if_pos hl, under_mq q (by omega)]
    simp only []
    rw [emptyB_false (mkey_eq q n), if_neg (by simp)]
    show rowL (okRows (rngM (mkey q n) (mHi q) m)) = _
    rw [rng_list h q n hn]
    exact rowL_map _ (fun x hx => h.fit x (hf x hx).1)
  · rw [if_neg hl, if_pos (by simp [emptyB, e0, ByteArray.toList_eq])]
    have : fromL q n B = [] := by
      rw [List.eq_nil_iff_forall_not_mem]
      intro x hx
      obtain ⟨h1, h2, _⟩ := hf x hx
      have := (h.fit x h1).1.1
      rw [h2, mkey_length] at this
      rw [mkey_length] at hl
      exact hl this
    rw [this]; rfl

theorem rng_due2 {B : List Ms} {m : M} (h : Rl B m) (now : Nat) (hn : now < 2 ^ 64) : rngM [2, 101, 0, 0] (hiL now) m = (dueR now B).map tP := by
  have hDm := due_mem now h.sortB
  refine sorted_ext (List.Pairwise.filter _ h.sortM) (tP_sorted2 (due_sorted now h.sortB) (fun x hx => ⟨(h.fit x ((hDm x).1 hx).1).2.1, (h.fit x ((hDm x).1 hx).1).2.2.1⟩)) ?_
  intro p
  unfold rngM
  rw [List.mem_filter, h.mem, List.mem_map]
  constructor
  · rintro ⟨⟨x, hx, rfl⟩ | ⟨x, hx, h1, rfl⟩, hin⟩
    · have hin : inR [2, 101, 0, 0] (hiL now) (mkey x.queue x.id, (mbytes x).data.toList) = true := hin
      rw [inR_m] at hin; cases hin
    · have hin : inR [2, 101, 0, 0] (hiL now) (tkey x.expiry x.queue x.id, []) = true := hin
      rw [inR_t _ _ _ _ _ (h.fit x hx).2.2.1 hn] at hin
      exact ⟨x, (hDm x).2 ⟨hx, h1, of_decide_eq_true hin⟩, rfl⟩
  · rintro ⟨x, hx, rfl⟩
    obtain ⟨h1, h2, h3⟩ := (hDm x).1 hx
    refine ⟨.inr ⟨x, h1, h2, rfl⟩, ?_⟩
    show inR [2, 101, 0, 0] (hiL now) (tkey x.expiry x.queue x.id, []) = true
    rw [inR_t _ _ _ _ _ (h.fit x h1).2.2.1 hn]
    exact decide_eq_true h3

theorem due_rows2 (sb mb : Nat) (h0 : 0 ≠ mb) (c : Nat) {B : List Ms} {m : M} (h : Rl B m) (now : Nat) (hn : now < 2 ^ 64) : (shelf sb mb h0).dueRows (c, m) now = okRows ((dueR now B).map tP) := by
  unfold Sto.dueRows
  rw [under_e]
  show okRows (rngM _ (dueTo now).data.toList _) = _
  rw [dueTo_eq]
  show okRows (rngM [2, 101, 0, 0] (hiL now) m) = _
  rw [rng_due2 h now hn]
theorem due_shelf (sb mb : Nat) (h0 : 0 ≠ mb) (c : Nat) {B : List Ms} {m : M} (h : Rl B m) (now : Nat) (hn : now < 2 ^ 64) :
    dueL (shelf sb mb h0) (c, m) ((shelf sb mb h0).dueRows (c, m) now) = (dueR now B).map fun y => (y, (0 : Int)) := by
  have hDm := due_mem now h.sortB
  rw [due_rows2 sb mb h0 c h now hn]
  have key : ∀ (D : List Ms), (∀ y ∈ D, y ∈ B ∧ y.expiry ≠ 0) → dueL (shelf sb mb h0) (c, m) (okRows (D.map tP)) = D.map fun y => (y, (0 : Int)) := by
    intro D
    induction D with
    | nil => intro _; rfl
    | cons y D ih =>
      intro hD
      obtain ⟨hy, hy0⟩ := hD y (by simp)
      have hyf := h.fit y hy
      have hd : dgot (shelf sb mb h0) (c, m) (tP y, 0) = (y, 0) := by
        unfold dgot tP
        simp only [parse_tkey2 _ _ _ (hyf.1.2 hy0) hyf.2.2.1 hyf.2.1]
        unfold dueG
        simp only [mget_shelf sb mb h0 c h hy]
        simp
      show dueL _ _ ((tP y, 0) :: okRows (D.map tP)) = _
      rw [dueL_cons, hd, if_neg (by simp), ih (fun z hz => hD z (by simp [hz]))]
      rfl
  exact key _ (fun y hy => ⟨((hDm y).1 hy).1, ((hDm y).1 hy).2.1⟩)

/-- how many pairs there are. -/
def termsL (B : List Ms) : List Ms := B.filter fun x => decide (x.expiry ≠ 0)
theorem Rl.length {B : List Ms} {m : M} (h : Rl B m) : m.length = B.length + (termsL B).length := by
  have hnd : m.Nodup := h.sortM.imp fun {a b} hab e => by subst e; exact List.lt_irrefl _ hab
  have hm : (B.map mP).Nodup := (mP_sorted h.sortB (fun x hx => (h.fit x hx).2.1)).imp fun {a b} hab e => by subst e; exact List.lt_irrefl _ hab
  have hB : B.Nodup := h.sortB.imp fun {a b} hab e => by subst e; exact ltM_irrefl _ hab
  have ht : ((termsL B).map tP).Nodup := by
    unfold List.Nodup
    rw [List.pairwise_map]
    refine List.Pairwise.imp_of_mem ?_ (List.Pairwise.filter _ hB)
    intro x y hx hy hne e
    apply hne
    unfold termsL at hx hy
    rw [List.mem_filter] at hx hy
    have hxf := h.fit x hx.1
    have hyf := h.fit y hy.1
    have hx0 : x.expiry ≠ 0 := by simpa using hx.2
    have := tkey_inj2 (hxf.1.2 hx0) hxf.2.2.1 hyf.2.2.1 hxf.2.1 hyf.2.1 (congrArg Prod.fst e)
    exact uniq_of_sorted h.sortB hx.1 hy.1 this.2.1 this.2.2
  have hall : (B.map mP ++ (termsL B).map tP).Nodup := by
    rw [List.nodup_append]
    refine ⟨hm, ht, ?_⟩
    intro p hp p' hp' e
    obtain ⟨x, _, rfl⟩ := List.mem_map.1 hp
    obtain ⟨y, _, rfl⟩ := List.mem_map.1 hp'
    exact mkey_ne_tkey _ _ _ _ _ (congrArg Prod.fst e)
  have hperm : m.Perm (B.map mP ++ (termsL B).map tP) := by
    rw [List.perm_ext_iff_of_nodup hnd hall]
    intro p
    rw [h.mem, List.mem_append, List.mem_map, List.mem_map]
    constructor
    · rintro (⟨x, hx, rfl⟩ | ⟨x, hx, h1, rfl⟩)
      · exact .inl ⟨x, hx, rfl⟩
      · exact .inr ⟨x, by unfold termsL; rw [List.mem_filter]; exact ⟨hx, by simpa using h1⟩, rfl⟩
    · rintro (⟨x, hx, rfl⟩ | ⟨x, hx, rfl⟩)
      · exact .inl ⟨x, hx, rfl⟩
      · unfold termsL at hx
        rw [List.mem_filter] at hx
        exact .inr ⟨x, hx.1, by simpa using hx.2, rfl⟩
  have := hperm.length_eq
  simpa using this
end Go.Oct
