import Derived.Test.YtbkddpckkgbbmaaGreatDoorVoP
import Derived.Test.YtbkddpckkgbbmaaGreatDoorVoK
set_option linter.unusedSimpArgs false
set_option linter.unusedVariables false
set_option linter.unusedSectionVars false
set_option linter.unnecessarySimpa false
namespace Go.Oct
open Go
set_option maxRecDepth 100000
def keyB (l : List Pt) : List UInt8:=l.flatMap Pt.bytes
theorem keyB_cons (p : Pt) (l : List Pt) : keyB (p :: l) = p.bytes ++ keyB l:=rfl
theorem keyL_eq : ∀ (l : List Pt) (acc : List UInt8),acc.length≤255→keyL l acc = if (acc ++ keyB l).length≤255 then (⟨(acc ++ keyB l).toArray⟩,0) else (e0,5):=by
  intro l
  induction l with
  | nil=>intro acc h; simp [keyL,keyB,h]
  | cons p l ih =>
    intro acc h
    have e : acc ++ keyB (p :: l) = (acc ++ p.bytes) ++ keyB l:=by simp [keyB_cons]
    rw [keyL,e]
    by_cases hc : (acc ++ p.bytes).length > 255
    · rw [if_pos hc,if_neg]
      rw [List.length_append]; omega
    · rw [if_neg hc]; exact ih _ (by omega)
theorem keyL_nil (l : List Pt) : keyL l [] = if (keyB l).length≤255 then (⟨(keyB l).toArray⟩,0) else (e0,5):=by
  simpa using keyL_eq l [] (by simp)
def bigL (n k : Nat) : List UInt8:=(List.range k).map fun i=>UInt8.ofNat (n / 2 ^ (8 * (k - 1 - i)))
theorem big_toList (n k : Nat) : (big n k).data.toList = bigL n k:=by simp [big,bigL]
theorem bigL_zero (n : Nat) : bigL n 0 = []:=rfl
theorem bigL_length (n k : Nat) : (bigL n k).length = k:=by simp [bigL]
theorem bigL_succ (n k : Nat) : bigL n (k + 1) = UInt8.ofNat (n / 2 ^ (8 * k)) :: bigL n k:=by
  unfold bigL
  rw [List.range_succ_eq_map,List.map_cons,List.map_map]
  congr 1
  refine List.map_congr_left ?_
  intro i hi
  show UInt8.ofNat (n / 2 ^ (8 * (k + 1 - 1 - (i + 1)))) = UInt8.ofNat (n / 2 ^ (8 * (k - 1 - i)))
  rw [show k + 1 - 1 - (i + 1) = k - 1 - i by omega]
theorem ofNat_lt (a b : Nat) : UInt8.ofNat a < UInt8.ofNat b ↔ a % 256 < b % 256:=by
  rw [UInt8.lt_iff_toNat_lt]; simp []
theorem ofNat_eq (a b : Nat) : UInt8.ofNat a = UInt8.ofNat b ↔ a % 256 = b % 256:=by
  rw [← UInt8.toNat_inj]; simp []
theorem split_lt {P A B n m : Nat} (hn : n < P) (hm : m < P) (X : Prop) : (A < B∨A = B∧(n < m∨n = m∧X)) ↔ (n + P * A < m + P * B∨n + P * A = m + P * B∧X):=by
  rcases Nat.lt_trichotomy A B with h | h | h
  · have h2 : P * (A + 1)≤P * B:=Nat.mul_le_mul_left P h
    rw [Nat.mul_add,Nat.mul_one] at h2
    exact ⟨fun _=>.inl (by omega),fun _=>.inl h⟩
  · subst h
    constructor
    · rintro (h | ⟨_,h | ⟨h,x⟩⟩)
      · omega
      · exact .inl (by omega)
      · exact .inr ⟨by omega,x⟩
    · rintro (h | ⟨h,x⟩)
      · exact .inr ⟨rfl,.inl (by omega)⟩
      · exact .inr ⟨rfl,.inr ⟨by omega,x⟩⟩
  · have h2 : P * (B + 1)≤P * A:=Nat.mul_le_mul_left P h
    rw [Nat.mul_add,Nat.mul_one] at h2
    constructor
    · rintro (h' | ⟨h',_⟩) <;> omega
    · rintro (h' | ⟨h',_⟩) <;> omega
theorem bigL_lt (k : Nat) : ∀ (n m : Nat) (X Y : List UInt8),(bigL n k ++ X < bigL m k ++ Y) ↔ (n % 2 ^ (8 * k) < m % 2 ^ (8 * k)∨n % 2 ^ (8 * k) = m % 2 ^ (8 * k)∧X < Y):=by
  induction k with
  | zero=>intro n m X Y; simp [bigL_zero,Nat.mod_one]
  | succ k ih =>
    intro n m X Y
    have hp : 2 ^ (8 * (k + 1)) = 2 ^ (8 * k) * 256:=by rw [Nat.mul_succ,Nat.pow_add]
    have e1 : ∀ n : Nat,n % 2 ^ (8 * (k + 1)) = n % 2 ^ (8 * k) + 2 ^ (8 * k) * (n / 2 ^ (8 * k) % 256):=fun n=>by rw [hp,Nat.mod_mul]
    have hP : 0 < 2 ^ (8 * k):=Nat.pow_pos (by decide)
    rw [bigL_succ,bigL_succ,List.cons_append,List.cons_append,List.cons_lt_cons_iff,ih,ofNat_lt,ofNat_eq,e1 n,e1 m]
    exact split_lt (Nat.mod_lt _ hP) (Nat.mod_lt _ hP) (X < Y)
theorem num_bigL (k : Nat) : ∀ (n a : Nat),(bigL n k).foldl (fun a c=>(a * 256 + c.toNat) % 2 ^ 64) a % 2 ^ 64 = (a * 2 ^ (8 * k) + n % 2 ^ (8 * k)) % 2 ^ 64:=by
  induction k with
  | zero=>intro n a; simp [bigL_zero,Nat.mod_one]
  | succ k ih =>
    intro n a
    have hp : 2 ^ (8 * (k + 1)) = 2 ^ (8 * k) * 256:=by rw [Nat.mul_succ,Nat.pow_add]
    have e1 : n % 2 ^ (8 * (k + 1)) = n % 2 ^ (8 * k) + 2 ^ (8 * k) * (n / 2 ^ (8 * k) % 256):=by rw [hp,Nat.mod_mul]
    rw [bigL_succ,List.foldl_cons,ih,UInt8.toNat_ofNat',e1,hp]
    have hmod : ∀ y P z : Nat,((y % 2 ^ 64) * P + z) % 2 ^ 64 = (y * P + z) % 2 ^ 64:=by
      intro y P z
      rw [Nat.add_mod,Nat.mod_mul_mod,← Nat.add_mod]
    rw [hmod]
    congr 1
    generalize 2 ^ (8 * k) = P
    generalize n / P % 2 ^ 8 = A
    rw [Nat.add_mul,Nat.mul_assoc,Nat.mul_comm 256 P,Nat.mul_comm P A]
    omega
theorem take_app (a b : List UInt8) : take (⟨(a ++ b).toArray⟩,0) (a.length : Int) = (⟨a.toArray⟩,(⟨b.toArray⟩,0)):=by
  have hs : (⟨(a ++ b).toArray⟩ : ByteArray).size = a.length + b.length:=by simp [ByteArray.size]
  unfold take
  rw [if_neg (by simp),if_neg (by simp only [hs]; omega)]
  simp only [Zax,hs]
  have e1 : (⟨(a ++ b).toArray⟩ : ByteArray).extract 0 a.length = ⟨a.toArray⟩:=by
    apply ByteArray.ext
    rw [ByteArray.data_extract]
    apply Array.ext'
    simp
  have e2 : (⟨(a ++ b).toArray⟩ : ByteArray).extract a.length (a.length + b.length) = ⟨b.toArray⟩:=by
    apply ByteArray.ext
    rw [ByteArray.data_extract]
    apply Array.ext'
    simp
  rw [e1,e2]
theorem number_app (a b : List UInt8) : number (⟨(a ++ b).toArray⟩,0) (a.length : Int) = (numL a,(⟨b.toArray⟩,0)):=by
  unfold number
  rw [take_app]
  rfl
theorem number_cons (c : UInt8) (b : List UInt8) : number (⟨(c :: b).toArray⟩,0) 1 = (c.toNat,(⟨b.toArray⟩,0)):=by
  have h:=number_app [c] b
  have e : numL [c] = c.toNat:=by
    have:=c.toNat_lt
    simp only [numL,Zba,Zbb]; omega
  rw [e] at h
  exact h
theorem number_big (n : Nat) (hn : n < 2 ^ 64) (b : List UInt8) : number (⟨(bigL n 8 ++ b).toArray⟩,0) 8 = (n,(⟨b.toArray⟩,0)):=by
  have h:=number_app (bigL n 8) b
  rw [bigL_length] at h
  have e : numL (bigL n 8) = n:=by
    have h1:=num_bigL 8 n 0
    have h2:=numL_lt (bigL n 8)
    unfold numL at h2 ⊢
    rw [Nat.mod_eq_of_lt h2] at h1
    rw [h1]
    simp only [Zbp,Nat.zero_add]
    rw [Nat.mod_eq_of_lt (a:=n) (by omega),Nat.mod_eq_of_lt hn]
  rw [e] at h
  exact h
theorem esc_cons (c : UInt8) (s : List UInt8) : esc (c :: s) = (if c = 0 then [0,255] else [c]) ++ esc s:=by simp [esc]
theorem esc_ge (s : List UInt8) : s.length≤(esc s).length:=by
  induction s with
  | nil=>simp
  | cons c s ih =>
    rw [esc_cons]
    split <;> simp <;> omega
theorem quotedN_esc : ∀ (s b acc : List UInt8) (n : Nat),s.length < n→quotedN n (⟨(esc s ++ 0 :: 0 :: b).toArray⟩,0) acc = (⟨(acc ++ s).toArray⟩,(⟨b.toArray⟩,0)):=by
  intro s
  induction s with
  | nil =>
    intro b acc n hn
    obtain ⟨k,rfl⟩ : ∃ k,n = k + 1:=⟨n - 1,by simp at hn; omega⟩
    have e : esc [] ++ 0 :: 0 :: b = 0 :: (0 :: b):=rfl
    rw [e]
    unfold quotedN
    rw [number_cons]
    simp only []
    rw [number_cons]
    simp
  | cons c s ih =>
    intro b acc n hn
    obtain ⟨k,rfl⟩ : ∃ k,n = k + 1:=⟨n - 1,by simp at hn; omega⟩
    have hk : s.length < k:=by simp at hn; omega
    rw [esc_cons]
    by_cases hc : c = 0
    · subst hc
      have e : (if (0 : UInt8) = 0 then [0,255] else [(0 : UInt8)]) ++ esc s ++ 0 :: 0 :: b = 0 :: (255 :: (esc s ++ 0 :: 0 :: b)):=by simp
      rw [e]
      unfold quotedN
      rw [number_cons]
      simp only []
      rw [number_cons]
      simp only []
      have:=ih b (acc ++ [0]) k hk
      simp [this]
    · have e : (if c = 0 then [0,255] else [c]) ++ esc s ++ 0 :: 0 :: b = c :: (esc s ++ 0 :: 0 :: b):=by simp [hc]
      rw [e]
      unfold quotedN
      rw [number_cons]
      simp only []
      have hcn : c.toNat % 256≠0:=by
        have:=c.toNat_lt
        have h0 : c.toNat≠0:=fun x=>hc (UInt8.toNat_inj.1 (by simpa using x))
        omega
      have hcc : UInt8.ofNat (c.toNat % 256) = c:=by
        rw [Nat.mod_eq_of_lt c.toNat_lt]; simp
      rw [if_neg (by simp),if_pos hcn,hcc,ih b (acc ++ [c]) k hk]
      simp
def Pt.ok (p : Pt) : Prop:=p.n < 2 ^ 64∧(p.t = true→p.n = 0)∧(p.t = false→p.s = e0)
theorem Pt.bytes_num {p : Pt} (h : p.t = false) : p.bytes = 1 :: bigL p.n 8:=by unfold Pt.bytes; rw [h,big_toList]; rfl
theorem Pt.bytes_str {p : Pt} (h : p.t = true) : p.bytes = 2 :: (esc p.s.data.toList ++ [0,0]):=by unfold Pt.bytes; rw [h]; rfl
theorem Pt.bytes_len (p : Pt) : 3≤p.bytes.length:=by
  cases h : p.t with
  | false=>rw [Pt.bytes_num h]; simp [bigL_length]
  | true=>rw [Pt.bytes_str h]; simp
theorem keyB_len : ∀ l : List Pt,l.length≤(keyB l).length:=by
  intro l
  induction l with
  | nil=>simp
  | cons p l ih =>
    have:=p.bytes_len
    rw [keyB_cons,List.length_append,List.length_cons]; omega
theorem partsN_key : ∀ (l : List Pt) (n : Nat) (acc : List Pt),(∀ p ∈ l,p.ok)→l.length < n→partsN n (⟨(keyB l).toArray⟩,0) acc = (acc ++ l,(⟨#[]⟩,0)):=by
  intro l
  induction l with
  | nil =>
    intro n acc _ hn
    obtain ⟨k,rfl⟩ : ∃ k,n = k + 1:=⟨n - 1,by simp at hn; omega⟩
    unfold partsN
    rw [if_neg (by simp [keyB,ByteArray.size])]
    simp [keyB]
  | cons p l ih =>
    intro n acc hok hn
    obtain ⟨k,rfl⟩ : ∃ k,n = k + 1:=⟨n - 1,by simp at hn; omega⟩
    have hk : l.length < k:=by simp at hn; omega
    have hp:=hok p (by simp)
    have hl : ∀ q ∈ l,q.ok:=fun q hq=>hok q (by simp [hq])
    rw [keyB_cons]
    unfold partsN
    cases ht : p.t with
    | false =>
      have hpe : num' p.n = p:=by
        obtain ⟨t,m,s⟩:=p
        simp only at ht
        have:=hp.2.2 ht
        simp only at this
        rw [ht,this]; rfl
      rw [Pt.bytes_num ht,List.cons_append,number_cons]
      simp only []
      rw [number_big p.n hp.1,if_pos (by simp [ByteArray.size]),if_pos (by decide)]
      simp only []
      rw [hpe,ih k _ hl hk]
      simp
    | true =>
      have hpe : str p.s = p:=by
        obtain ⟨t,m,s⟩:=p
        simp only at ht
        have:=hp.2.1 ht
        simp only at this
        rw [ht,this]; rfl
      have e : esc p.s.data.toList ++ [0,0] ++ keyB l = esc p.s.data.toList ++ 0 :: 0 :: keyB l:=by simp
      rw [Pt.bytes_str ht,List.cons_append,e,number_cons]
      simp only []
      have hq : quotedR (⟨(esc p.s.data.toList ++ 0 :: 0 :: keyB l).toArray⟩,0) = (⟨p.s.data.toList.toArray⟩,(⟨(keyB l).toArray⟩,0)):=by
        unfold quotedR
        have:=esc_ge p.s.data.toList
        have hsz : (⟨(esc p.s.data.toList ++ 0 :: 0 :: keyB l).toArray⟩ : ByteArray).size = (esc p.s.data.toList ++ 0 :: 0 :: keyB l).length:=by show (esc p.s.data.toList ++ 0 :: 0 :: keyB l).toArray.size = _; rw [List.size_toArray]
        rw [quotedN_esc _ _ _ _ (by rw [hsz,List.length_append]; omega)]
        rfl
      rw [hq,if_pos (by simp [ByteArray.size]),if_neg (by decide),if_pos (by decide)]
      have hs : (⟨p.s.data.toList.toArray⟩ : ByteArray) = p.s:=by cases p.s; simp
      simp only []
      rw [hs,hpe,ih k _ hl hk]
      simp
theorem partsR_key (l : List Pt) (hok : ∀ p ∈ l,p.ok) (hlen : (keyB l).length≤255) : partsR ⟨(keyB l).toArray⟩ = (l,0):=by
  have hs : (⟨(keyB l).toArray⟩ : ByteArray).size = (keyB l).length:=by simp [ByteArray.size]
  have h:=partsN_key l ((keyB l).length + 1) [] hok (by have:=keyB_len l; omega)
  unfold partsR
  rw [hs,if_neg (by omega),h]
  simp
theorem esc_lt : ∀ (s t X Y : List UInt8),(esc s ++ 0 :: 0 :: X < esc t ++ 0 :: 0 :: Y) ↔ (s < t∨s = t∧X < Y):=by
  intro s
  induction s with
  | nil =>
    intro t X Y
    cases t with
    | nil =>
      show (0 :: 0 :: X < 0 :: 0 :: Y) ↔ _
      simp []
    | cons d t =>
      rw [esc_cons]
      by_cases hd : d = 0
      · subst hd
        show (0 :: 0 :: X < 0 :: 255 :: (esc t ++ 0 :: 0 :: Y)) ↔ _
        simp only [Zcd]
        exact ⟨fun _=>.inl (List.nil_lt_cons _ _),fun _=>.inr ⟨trivial,.inl (by decide)⟩⟩
      · have e : (if d = 0 then [0,255] else [d]) ++ esc t ++ 0 :: 0 :: Y = d :: (esc t ++ 0 :: 0 :: Y):=by simp [hd]
        rw [e]
        show (0 :: 0 :: X < d :: (esc t ++ 0 :: 0 :: Y)) ↔ _
        rw [List.cons_lt_cons_iff]
        have h0 : (0 : UInt8) < d:=by
          rw [UInt8.lt_iff_toNat_lt]
          have : d.toNat≠0:=fun x=>hd (UInt8.toNat_inj.1 (by simpa using x))
          show 0 < d.toNat
          omega
        exact ⟨fun _=>.inl (List.nil_lt_cons _ _),fun _=>.inl h0⟩
  | cons c s ih =>
    intro t X Y
    cases t with
    | nil =>
      rw [esc_cons]
      have hf : ¬ (c :: s < ([] : List UInt8)∨c :: s = []∧X < Y):=by
        rintro (h | ⟨h,_⟩)
        · exact List.not_lt_nil _ h
        · cases h
      by_cases hc : c = 0
      · subst hc
        show (0 :: 255 :: (esc s ++ 0 :: 0 :: X) < 0 :: 0 :: Y) ↔ _
        simp only [Zcd]
        exact ⟨fun h=>by
          rcases h with h | ⟨_,h | ⟨h,_⟩⟩
          · exact absurd h (by decide)
          · exact absurd h (by decide)
          · exact absurd h (by decide),fun h=>(hf h).elim⟩
      · have e : (if c = 0 then [0,255] else [c]) ++ esc s ++ 0 :: 0 :: X = c :: (esc s ++ 0 :: 0 :: X):=by simp [hc]
        rw [e]
        show (c :: (esc s ++ 0 :: 0 :: X) < 0 :: 0 :: Y) ↔ _
        rw [List.cons_lt_cons_iff]
        exact ⟨fun h=>by
          rcases h with h | ⟨h,_⟩
          · rw [UInt8.lt_iff_toNat_lt] at h
            exact absurd h (by show ¬ c.toNat < 0; omega)
          · exact (hc h).elim,fun h=>(hf h).elim⟩
    | cons d t =>
      rw [esc_cons,esc_cons,List.cons_lt_cons_iff]
      by_cases hcd : c = d
      · subst hcd
        have hl : ((if c = 0 then [0,255] else [c]) ++ esc s ++ 0 :: 0 :: X < (if c = 0 then [0,255] else [c]) ++ esc t ++ 0 :: 0 :: Y) ↔ (esc s ++ 0 :: 0 :: X < esc t ++ 0 :: 0 :: Y):=by
          by_cases hc : c = 0
          · simp [hc]
          · simp [hc]
        rw [hl,ih]
        constructor
        · rintro (h | ⟨rfl,h⟩)
          · exact .inl (.inr ⟨rfl,h⟩)
          · exact .inr ⟨rfl,h⟩
        · rintro ((h | ⟨_,h⟩) | ⟨h,h'⟩)
          · exact absurd h (by rw [UInt8.lt_iff_toNat_lt]; omega)
          · exact .inl h
          · exact .inr ⟨(List.cons.inj h).2,h'⟩
      · have hne : ¬ (c :: s = d :: t):=fun h=>hcd (List.cons.inj h).1
        have hr : ((c < d∨c = d∧s < t)∨c :: s = d :: t∧X < Y) ↔ c < d:=by
          constructor
          · rintro ((h | ⟨h,_⟩) | ⟨h,_⟩)
            · exact h
            · exact (hcd h).elim
            · exact (hne h).elim
          · exact fun h=>.inl (.inl h)
        rw [hr]
        by_cases hc : c = 0
        · subst hc
          have hd : ¬ d = 0:=fun x=>hcd x.symm
          have e : (if d = 0 then [0,255] else [d]) ++ esc t ++ 0 :: 0 :: Y = d :: (esc t ++ 0 :: 0 :: Y):=by simp [hd]
          rw [e]
          show (0 :: 255 :: (esc s ++ 0 :: 0 :: X) < d :: (esc t ++ 0 :: 0 :: Y)) ↔ _
          rw [List.cons_lt_cons_iff]
          exact ⟨fun h=>h.elim id (fun x=>(hd x.1.symm).elim),.inl⟩
        · by_cases hd : d = 0
          · subst hd
            have e : (if c = 0 then [0,255] else [c]) ++ esc s ++ 0 :: 0 :: X = c :: (esc s ++ 0 :: 0 :: X):=by simp [hc]
            rw [e]
            show (c :: (esc s ++ 0 :: 0 :: X) < 0 :: 255 :: (esc t ++ 0 :: 0 :: Y)) ↔ _
            rw [List.cons_lt_cons_iff]
            exact ⟨fun h=>h.elim id (fun x=>(hc x.1).elim),.inl⟩
          · have e : (if c = 0 then [0,255] else [c]) ++ esc s ++ 0 :: 0 :: X = c :: (esc s ++ 0 :: 0 :: X):=by simp [hc]
            have e' : (if d = 0 then [0,255] else [d]) ++ esc t ++ 0 :: 0 :: Y = d :: (esc t ++ 0 :: 0 :: Y):=by simp [hd]
            rw [e,e',List.cons_lt_cons_iff]
            exact ⟨fun h=>h.elim id (fun x=>(hcd x.1).elim),.inl⟩
def ltPt (p q : Pt) : Prop:=if p.t = q.t then (if p.t = true then p.s.data.toList < q.s.data.toList else p.n < q.n) else q.t = true
theorem part_lt {p q : Pt} (hp : p.ok) (hq : q.ok) (X Y : List UInt8) : (p.bytes ++ X < q.bytes ++ Y) ↔ (ltPt p q∨p = q∧X < Y):=by
  unfold ltPt
  cases h1 : p.t with
  | false =>
    cases h2 : q.t with
    | false =>
      rw [Pt.bytes_num h1,Pt.bytes_num h2,List.cons_append,List.cons_append,List.cons_lt_cons_iff,bigL_lt,Nat.mod_eq_of_lt (a:=p.n) (by have:=hp.1; omega),Nat.mod_eq_of_lt (a:=q.n) (by have:=hq.1; omega)]
      have heq : p = q ↔ p.n = q.n:=by
        obtain ⟨t,n,s⟩:=p
        obtain ⟨t',n',s'⟩:=q
        simp only at h1 h2
        have e1:=hp.2.2 h1
        have e2:=hq.2.2 h2
        simp only at e1 e2
        subst h1 h2 e1 e2
        simp
      rw [heq]
      simp
    | true =>
      rw [Pt.bytes_num h1,Pt.bytes_str h2,List.cons_append,List.cons_append,List.cons_lt_cons_iff]
      have hne : ¬ p = q:=fun h=>by rw [h,h2] at h1; cases h1
      simp [hne]
  | true =>
    cases h2 : q.t with
    | false =>
      rw [Pt.bytes_str h1,Pt.bytes_num h2,List.cons_append,List.cons_append,List.cons_lt_cons_iff]
      have hne : ¬ p = q:=fun h=>by rw [h,h2] at h1; cases h1
      simp [hne]
    | true =>
      rw [Pt.bytes_str h1,Pt.bytes_str h2,List.cons_append,List.cons_append,List.cons_lt_cons_iff]
      have e : ∀ (s : List UInt8) (Z : List UInt8),esc s ++ [0,0] ++ Z = esc s ++ 0 :: 0 :: Z:=fun s Z=>by simp
      rw [e,e,esc_lt]
      have heq : p = q ↔ p.s.data.toList = q.s.data.toList:=by
        obtain ⟨t,n,⟨⟨s⟩⟩⟩:=p
        obtain ⟨t',n',⟨⟨s'⟩⟩⟩:=q
        simp only at h1 h2
        have e1:=hp.2.1 h1
        have e2:=hq.2.1 h2
        simp only at e1 e2
        subst h1 h2 e1 e2
        simp
      rw [heq]
      simp
end Go.Oct
namespace Go.Oct
open Go
theorem lt_irrefl' (a : List UInt8) : ¬ a < a:=List.lt_irrefl a
theorem before_iff (a b : List UInt8) : bytesBefore a b = true ↔ a < b:=by
  rw [before_less,Go.Proofs.bytesLess_eq]; exact decide_eq_true_iff
theorem mem_ins {x p : List UInt8 × List UInt8} : ∀ {m : M},p ∈ insM x m ↔ p = x∨p ∈ m:=by
  intro m
  induction m with
  | nil=>simp [insM]
  | cons y r ih =>
    unfold insM
    split
    · simp
    · simp only [Zbu,ih]
      exact ⟨fun h=>by rcases h with h | h | h <;> simp [h],fun h=>by rcases h with h | h | h <;> simp [h]⟩
theorem mem_put {k v : List UInt8} {m : M} {p : List UInt8 × List UInt8} : p ∈ putM k v m ↔ p = (k,v)∨(p ∈ m∧p.1≠k):=by
  unfold putM
  rw [mem_ins,List.mem_filter]
  simp
theorem mem_del {k : List UInt8} {m : M} {p : List UInt8 × List UInt8} : p ∈ delM k m ↔ p ∈ m∧p.1≠k:=by
  unfold delM
  rw [List.mem_filter]
  simp
theorem sorted_ins {x : List UInt8 × List UInt8} : ∀ {m : M},SortedM m→(∀ p ∈ m,p.1≠x.1)→SortedM (insM x m):=by
  intro m
  induction m with
  | nil=>intro _ _; simp [insM,SortedM]
  | cons y r ih =>
    intro h hx
    have h':=List.pairwise_cons.1 h
    unfold insM
    by_cases hb : bytesBefore x.1 y.1 = true
    · rw [if_pos hb]
      have hxy:=(before_iff _ _).1 hb
      refine List.pairwise_cons.2 ⟨?_,h⟩
      intro p hp
      rcases List.mem_cons.1 hp with rfl | hp
      · exact hxy
      · exact List.lt_trans hxy (h'.1 p hp)
    · rw [if_neg hb]
      refine List.pairwise_cons.2 ⟨?_,ih h'.2 (fun p hp=>hx p (by simp [hp]))⟩
      intro p hp
      rcases mem_ins.1 hp with rfl | hp
      · have hne:=hx y (by simp)
        rcases Decidable.em (y.1 < p.1) with h1 | h1
        · exact h1
        · rcases Decidable.em (p.1 < y.1) with h2 | h2
          · exact (hb ((before_iff _ _).2 h2)).elim
          · exact (hne (List.le_antisymm (List.not_lt.1 h2) (List.not_lt.1 h1))).elim
      · exact h'.1 p hp
theorem sorted_del {k : List UInt8} {m : M} (h : SortedM m) : SortedM (delM k m):=List.Pairwise.filter _ h
theorem sorted_put {k v : List UInt8} {m : M} (h : SortedM m) : SortedM (putM k v m):=by
  unfold putM
  refine sorted_ins (List.Pairwise.filter _ h) ?_
  intro p hp
  have:=(List.mem_filter.1 hp).2
  simpa using this
theorem look_none : ∀ {m : M} {k : List UInt8},(∀ p ∈ m,p.1≠k)→lookM k m = none:=by
  intro m k
  induction m with
  | nil=>intro _; rfl
  | cons y r ih =>
    intro h
    unfold lookM
    rw [if_neg (by simpa using h y (by simp))]
    exact ih (fun p hp=>h p (by simp [hp]))
end Go.Oct
