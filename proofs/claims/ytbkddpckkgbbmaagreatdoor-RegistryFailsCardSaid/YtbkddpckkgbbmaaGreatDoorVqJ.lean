import Derived.Test.YtbkddpckkgbbmaaGreatDoorVgE
set_option linter.unusedSimpArgs false
set_option linter.unusedVariables false
set_option linter.unusedSectionVars false
set_option linter.unnecessarySimpa false
namespace Go.Oct
open Go Go.Vc Go.VrA Go.VrB Go.VrC
set_option maxRecDepth 100000
def Ms.fine (m : Ms) : Prop:=m.queue.size≤100∧m.id < 2 ^ 64∧m.expiry < 2 ^ 64∧m.tries < 2 ^ 32∧m.body.size≤1000
def mL (q : ByteArray) (n : Nat) : List Pt:=[str ⟨#[109]⟩,str q,num' n]
def tL (a : Nat) (q : ByteArray) (n : Nat) : List Pt:=[str ⟨#[101]⟩,num' a,str q,num' n]
def mkey (q : ByteArray) (n : Nat) : List UInt8:=keyB (mL q n)
def tkey (a : Nat) (q : ByteArray) (n : Nat) : List UInt8:=keyB (tL a q n)
theorem str_bytes (s : ByteArray) : (str s).bytes = 2 :: (esc s.data.toList ++ [0,0]):=Pt.bytes_str rfl
theorem num_bytes (n : Nat) : (num' n).bytes = 1 :: bigL n 8:=Pt.bytes_num rfl
theorem esc_le (q : ByteArray) : (esc q.data.toList).length≤2 * q.size:=esc_length _
theorem mkey_len (q : ByteArray) (n : Nat) (hq : q.size≤100) : (mkey q n).length≤255:=by
  have:=esc_le q
  have e : (esc (⟨#[109]⟩ : ByteArray).data.toList) = [109]:=rfl
  simp only [mkey,mL,keyB_cons,str_bytes,num_bytes,Zby,Zai,Zaj,bigL_length,e]
  simp only [keyB,List.flatMap_nil,Zaj]
  omega
theorem str_ok (s : ByteArray) : (str s).ok:=⟨by simp [str],fun _=>rfl,fun h=>by cases h⟩
theorem num_ok (n : Nat) (h : n < 2 ^ 64) : (num' n).ok:=⟨h,(fun h=>by cases h),fun _=>rfl⟩
theorem mL_ok (q : ByteArray) (n : Nat) (hn : n < 2 ^ 64) : ∀ p ∈ mL q n,p.ok:=by
  intro p hp
  simp only [mL,Zbu,Zbv,or_false] at hp
  rcases hp with rfl | rfl | rfl
  · exact str_ok _
  · exact str_ok _
  · exact num_ok _ hn
theorem tL_ok (a : Nat) (q : ByteArray) (n : Nat) (ha : a < 2 ^ 64) (hn : n < 2 ^ 64) : ∀ p ∈ tL a q n,p.ok:=by
  intro p hp
  simp only [tL,Zbu,Zbv,or_false] at hp
  rcases hp with rfl | rfl | rfl | rfl
  · exact str_ok _
  · exact num_ok _ ha
  · exact str_ok _
  · exact num_ok _ hn
theorem keyB_inj {l l' : List Pt} (h : ∀ p ∈ l,p.ok) (h' : ∀ p ∈ l',p.ok) (hl : (keyB l).length≤255) (e : keyB l = keyB l') : l = l':=by
  have h1:=partsR_key l h hl
  have h2:=partsR_key l' h' (e ▸ hl)
  rw [e,h2] at h1
  exact (congrArg Prod.fst h1).symm
theorem mkey_inj {q q' : ByteArray} {n n' : Nat} (hq : q.size≤100) (hn : n < 2 ^ 64) (hn' : n' < 2 ^ 64) (e : mkey q n = mkey q' n') : q = q'∧n = n':=by
  have:=keyB_inj (mL_ok q n hn) (mL_ok q' n' hn') (mkey_len q n hq) e
  simp only [mL,str,num',List.cons.injEq,Pt.mk.injEq,true_and,and_true] at this
  exact ⟨this.1,this.2⟩
theorem mkey_eq (q : ByteArray) (n : Nat) : mkey q n = 2 :: 109 :: 0 :: 0 :: keyB [str q,num' n]:=by
  show (str ⟨#[109]⟩).bytes ++ keyB [str q,num' n] = _
  rw [str_bytes]; rfl
theorem tkey_eq (a : Nat) (q : ByteArray) (n : Nat) : tkey a q n = 2 :: 101 :: 0 :: 0 :: ((num' a).bytes ++ keyB [str q,num' n]):=by
  show (str ⟨#[101]⟩).bytes ++ keyB [num' a,str q,num' n] = _
  rw [str_bytes]; rfl
theorem mkey_ne_tkey (q : ByteArray) (n : Nat) (a : Nat) (q' : ByteArray) (n' : Nat) : mkey q n≠tkey a q' n':=by
  rw [mkey_eq,tkey_eq]
  intro h
  have:=List.cons.inj (List.cons.inj h).2
  exact absurd this.1 (by decide)
def ltM (a b : Ms) : Prop:=a.queue.data.toList < b.queue.data.toList∨(a.queue = b.queue∧a.id < b.id)
theorem q_ext {a b : ByteArray} (h : a.data.toList = b.data.toList) : a = b:=ByteArray.ext (Array.ext' h)
theorem aheadR_iff (a b : Ms) : aheadR a b = true ↔ ltM a b:=by
  unfold aheadR ltM
  rw [lessR_cons]
  by_cases hq : a.queue = b.queue
  · rw [if_neg (by simp [str]),if_neg (by simp [str,hq]),if_neg (by simp [str]),lessR_cons]
    rw [if_neg (by simp [num']),if_neg (by simp [num'])]
    by_cases hn : a.id = b.id
    · rw [if_neg (by simp [num',hn])]
      have : lessR [] [] = false:=rfl
      rw [this]
      simp only [hq,hn,Nat.lt_irrefl,and_false,or_false]
      simp
    · rw [if_pos (by simp [num',hn])]
      show decide (a.id < b.id) = true ↔ _
      rw [decide_eq_true_iff]
      constructor
      · intro h; exact .inr ⟨hq,h⟩
      · rintro (h | ⟨_,h⟩)
        · rw [hq] at h; exact absurd h (List.lt_irrefl _)
        · exact h
  · rw [if_neg (by simp [str]),if_pos (by simp [str,hq])]
    show decide (a.queue.data.toList < b.queue.data.toList) = true ↔ _
    rw [decide_eq_true_iff]
    constructor
    · exact .inl
    · rintro (h | ⟨h,_⟩)
      · exact h
      · exact absurd h hq
theorem rest_lt (q q' : ByteArray) (n n' : Nat) (hn : n < 2 ^ 64) (hn' : n' < 2 ^ 64) : keyB [str q,num' n] < keyB [str q',num' n'] ↔ (q.data.toList < q'.data.toList∨(q = q'∧n < n')):=by
  have e1 : ∀ (q : ByteArray) (n : Nat),keyB [str q,num' n] = (str q).bytes ++ ((num' n).bytes ++ keyB []):=fun _ _=>rfl
  rw [e1,e1,part_lt (str_ok q) (str_ok q'),part_lt (num_ok n hn) (num_ok n' hn')]
  have h1 : ltPt (str q) (str q') ↔ q.data.toList < q'.data.toList:=by simp [ltPt,str]
  have h2 : ltPt (num' n) (num' n') ↔ n < n':=by simp [ltPt,num']
  have h3 : str q = str q' ↔ q = q':=by simp [str]
  have h4 : ¬ (keyB [] < keyB []):=List.lt_irrefl _
  rw [h1,h2,h3]
  simp only [h4,and_false,or_false]
theorem cons_lt_same {c : UInt8} {a b : List UInt8} : c :: a < c :: b ↔ a < b:=by
  rw [List.cons_lt_cons_iff]
  simp
theorem ltM_irrefl (a : Ms) : ¬ ltM a a:=by
  rintro (h | ⟨_,h⟩)
  · exact List.lt_irrefl _ h
  · omega
theorem ltM_trans {a b c : Ms} (h : ltM a b) (h' : ltM b c) : ltM a c:=by
  unfold ltM at *
  rcases h with h | ⟨e,h⟩ <;> rcases h' with h' | ⟨e',h'⟩
  · exact .inl (List.lt_trans h h')
  · rw [← e']; exact .inl h
  · rw [e]; exact .inl h'
  · exact .inr ⟨e.trans e',by omega⟩
theorem lst_tri (a b : List UInt8) : a < b∨a = b∨b < a:=by
  by_cases h : a < b
  · exact .inl h
  · by_cases h' : b < a
    · exact .inr (.inr h')
    · exact .inr (.inl (List.le_antisymm (List.not_lt.1 h') (List.not_lt.1 h)))
theorem ltM_tri (a b : Ms) : ltM a b∨(a.queue = b.queue∧a.id = b.id)∨ltM b a:=by
  unfold ltM
  rcases lst_tri a.queue.data.toList b.queue.data.toList with h | h | h
  · exact .inl (.inl h)
  · have e:=q_ext h
    rcases Nat.lt_trichotomy a.id b.id with h' | h' | h'
    · exact .inl (.inr ⟨e,h'⟩)
    · exact .inr (.inl ⟨e,h'⟩)
    · exact .inr (.inr (.inr ⟨e.symm,h'⟩))
  · exact .inr (.inr (.inl h))
theorem num_bigL' (k n : Nat) (h : n < 2 ^ (8 * k)) (hk : k≤8) : numL (bigL n k) = n:=by
  have h1:=num_bigL k n 0
  have h2:=numL_lt (bigL n k)
  unfold numL at h2 ⊢
  rw [Nat.mod_eq_of_lt h2] at h1
  have hp : 2 ^ (8 * k)≤2 ^ 64:=Nat.pow_le_pow_right (by decide) (by omega)
  rw [h1,Nat.zero_mul,Nat.zero_add,Nat.mod_eq_of_lt h,Nat.mod_eq_of_lt (by omega)]
theorem number_bigL (k n : Nat) (h : n < 2 ^ (8 * k)) (hk : k≤8) (b : List UInt8) : number (⟨(bigL n k ++ b).toArray⟩,0) k = (n,(⟨b.toArray⟩,0)):=by
  have h':=number_app (bigL n k) b
  rw [bigL_length,num_bigL' k n h hk] at h'
  exact h'
theorem mbytes_list (m : Ms) (h : m.fine) : (mbytes m).data.toList = [1] ++ (bigL m.tries 4 ++ (bigL m.expiry 8 ++ (bigL m.body.size 4 ++ m.body.data.toList))):=by
  have hb : m.body.size % 2 ^ 32 = m.body.size:=Nat.mod_eq_of_lt (by have:=h.2.2.2.2; omega)
  unfold mbytes mput textB
  rw [hb]
  simp only [Zcl,Zcj,big_toList,List.append_assoc]
  rfl
theorem mbytes_size (m : Ms) (h : m.fine) : (mbytes m).size≤1017:=by
  have e : (mbytes m).size = (mbytes m).data.toList.length:=by rw [Array.length_toList]; rfl
  rw [e,mbytes_list m h]
  simp only [Zby,bigL_length,Zai,Zaj,Array.length_toList]
  have:=h.2.2.2.2
  have e2 : m.body.data.size = m.body.size:=rfl
  omega
end Go.Oct
namespace Go.Oct
open Go Go.Vc Go.VrA Go.VrB Go.VrC
set_option maxRecDepth 100000
theorem insR_mem {m x : Ms} : ∀ {l : List Ms},x ∈ insR m l ↔ x = m∨x ∈ l:=by
  intro l
  induction l with
  | nil=>simp [insR]
  | cons y r ih =>
    rw [insR_cons]
    split
    · simp
    · simp only [Zbu,ih]
      exact ⟨fun h=>by rcases h with h | h | h <;> simp [h],fun h=>by rcases h with h | h | h <;> simp [h]⟩
theorem insR_sorted {m : Ms} : ∀ {l : List Ms},l.Pairwise ltM→(∀ a ∈ l,¬ (a.queue = m.queue∧a.id = m.id))→(insR m l).Pairwise ltM:=by
  intro l
  induction l with
  | nil=>intro _ _; simp [insR]
  | cons y r ih =>
    intro h hne
    have h':=List.pairwise_cons.1 h
    rw [insR_cons]
    split
    · rename_i hc
      have hmy:=(aheadR_iff m y).1 hc
      refine List.pairwise_cons.2 ⟨?_,h⟩
      intro a ha
      rcases List.mem_cons.1 ha with rfl | ha
      · exact hmy
      · exact ltM_trans hmy (h'.1 a ha)
    · rename_i hc
      refine List.pairwise_cons.2 ⟨?_,ih h'.2 (fun a ha=>hne a (by simp [ha]))⟩
      intro a ha
      rcases insR_mem.1 ha with rfl | ha
      · rcases ltM_tri y a with h1 | h1 | h1
        · exact h1
        · exact absurd h1 (hne y (by simp))
        · exact absurd ((aheadR_iff a y).2 h1) hc
      · exact h'.1 a ha
structure Rel (B : List Ms) (m : M) : Prop where
  fine : ∀ x ∈ B,x.fine
  sortB : B.Pairwise ltM
  sortM : SortedM m
  mem : ∀ p,p ∈ m ↔ (∃ x ∈ B,p = (mkey x.queue x.id,(mbytes x).data.toList))∨(∃ x ∈ B,x.expiry≠0∧p = (tkey x.expiry x.queue x.id,[]))
theorem Rel.nil : Rel [] []:=⟨by simp,List.Pairwise.nil,List.Pairwise.nil,by simp⟩
theorem uniq_of_sorted : ∀ {B : List Ms},B.Pairwise ltM→∀ {a b},a ∈ B→b ∈ B→a.queue = b.queue→a.id = b.id→a = b:=by
  intro B
  induction B with
  | nil=>intro _ a b ha; cases ha
  | cons y r ih =>
    intro h a b ha hb hq hi
    have h':=List.pairwise_cons.1 h
    have no : ∀ x y : Ms,x.queue = y.queue→x.id = y.id→¬ ltM x y:=by
      rintro x y e1 e2 (h | ⟨_,h⟩)
      · rw [e1] at h; exact List.lt_irrefl _ h
      · omega
    rcases List.mem_cons.1 ha with e1 | ha1 <;> rcases List.mem_cons.1 hb with e2 | hb1
    · rw [e1,e2]
    · rw [e1] at hq hi; exact absurd (h'.1 b hb1) (no _ _ hq hi)
    · rw [e2] at hq hi; exact absurd (h'.1 a ha1) (no _ _ hq.symm hi.symm)
    · exact ih h'.2 ha1 hb1 hq hi
theorem Rel.look {B : List Ms} {m : M} (h : Rel B m) {x : Ms} (hx : x ∈ B) : lookM (mkey x.queue x.id) m = some (mbytes x).data.toList :=
  look_mem h.sortM (p:=(mkey x.queue x.id,(mbytes x).data.toList)) ((h.mem _).2 (.inl ⟨x,hx,rfl⟩))
theorem Rel.look_none {B : List Ms} {m : M} (h : Rel B m) {q : ByteArray} {n : Nat} (hq : q.size≤100) (hn : n < 2 ^ 64) (hno : ∀ x ∈ B,¬ (x.queue = q∧x.id = n)) : lookM (mkey q n) m = none:=by
  refine Go.Oct.look_none ?_
  intro p hp e
  rcases (h.mem p).1 hp with ⟨x,hx,rfl⟩ | ⟨x,hx,_,rfl⟩
  · have:=mkey_inj hq hn (h.fine x hx).2.1 e.symm
    exact hno x hx ⟨this.1.symm,this.2.symm⟩
  · exact mkey_ne_tkey _ _ _ _ _ e.symm
theorem ins_length (x : List UInt8 × List UInt8) : ∀ m : M,(insM x m).length = m.length + 1
  | []=>rfl
  | y :: r=>by
    unfold insM
    split
    · simp
    · simp [ins_length x r]
theorem put_length (k v : List UInt8) (m : M) : (putM k v m).length≤m.length + 1:=by
  unfold putM
  rw [ins_length]
  have:=List.length_filter_le (fun p : List UInt8 × List UInt8 => !(p.1 == k)) m
  omega
theorem shelf_get (sb mb : Nat) (h0 : 0≠mb) (c : Nat) (m : M) (k : List UInt8) : (shelf sb mb h0).get (c,m) ⟨k.toArray⟩ = ((⟨((lookM k m).getD []).toArray⟩,(lookM k m).isSome,0),(c,m)):=rfl
theorem shelf_put (sb mb : Nat) (h0 : 0≠mb) (c : Nat) (m : M) (k : List UInt8) (x : ByteArray) (hk : k.length≤255) (hx : x.size≤65536) : (shelf sb mb h0).put (c,m) ⟨k.toArray⟩ x = (0,(c + 1,putM k x.data.toList m)):=by
  have e : (shelf sb mb h0).put (c,m) ⟨k.toArray⟩ x = if (⟨k.toArray⟩ : ByteArray).size > 255∨x.size > 65536 then (5,(c,m)) else (0,(c + 1,putM k x.data.toList m)):=rfl
  have e2 : (⟨k.toArray⟩ : ByteArray).size = k.length:=by simp [ByteArray.size]
  rw [e,if_neg (by rw [e2]; omega)]
end Go.Oct
namespace Go.Oct
open Go Go.Vc Go.VrA Go.VrB Go.VrC
set_option maxRecDepth 100000
def hiL (now : Nat) : List UInt8:=if now < 18446744073709551615 then 2 :: 101 :: 0 :: 0 :: (num' (now + 1)).bytes else [2,101,0,1]
def tP (x : Ms) : List UInt8 × List UInt8:=(tkey x.expiry x.queue x.id,[])
def tk (x : Ms) : List UInt8:=tkey x.expiry x.queue x.id
end Go.Oct
