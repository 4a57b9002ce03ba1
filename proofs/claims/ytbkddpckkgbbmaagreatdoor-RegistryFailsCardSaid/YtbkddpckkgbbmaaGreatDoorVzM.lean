import Derived.Test.YtbkddpckkgbbmaaGreatDoorVfQ
import Derived.Test.YtbkddpckkgbbmaaGreatDoorVpI
import Derived.Test.YtbkddpckkgbbmaaGreatDoorVgE
import Derived.Test.YtbkddpckkgbbmaaGreatDoorVcT
import Derived.Test.YtbkddpckkgbbmaaGreatDoorVfY
set_option linter.unusedSimpArgs false
set_option linter.unusedVariables false
set_option linter.unusedSectionVars false
set_option linter.unnecessarySimpa false
namespace Go.Oct
open Go Go.Vc Go.VrA Go.VrB Go.VrE
set_option maxRecDepth 100000
end Go.Oct
namespace Go.Oct
open Go Go.Vc Go.VrA Go.VrB Go.VrE
set_option maxRecDepth 100000
end Go.Oct
namespace Go.Oct
open Go Go.Vc Go.VrA Go.VrB Go.VrE
set_option maxRecDepth 100000
end Go.Oct
namespace Go.Oct
open Go Go.Vc Go.VrA Go.VrB Go.VrE
set_option maxRecDepth 100000
end Go.Oct
namespace Go.Oct
open Go Go.Vc Go.VrA Go.VrB Go.VrE
set_option maxRecDepth 100000
end Go.Oct
namespace Go.Oct
open Go Go.Vc Go.VrA Go.VrB Go.VrE
set_option maxRecDepth 100000
end Go.Oct
namespace Go.Oct
open Go Go.Vc Go.VrA Go.VrB Go.VrC Go.VrE
set_option maxRecDepth 100000
end Go.Oct
namespace Go.Oct
open Go Go.Vc Go.VrA Go.VrB Go.VrC Go.VrE
set_option maxRecDepth 100000
end Go.Oct
namespace Go.Oct
open Go Go.Vc Go.VrA Go.VrB Go.VrC Go.VrE
set_option maxRecDepth 100000
end Go.Oct
namespace Go.Oct
open Go Go.Vc Go.VrA Go.VrB Go.VrC Go.VrE
set_option maxRecDepth 100000
end Go.Oct
namespace Go.Oct
open Go Go.Vc Go.VrA Go.VrB Go.VrC Go.VrE
set_option maxRecDepth 100000
def Ms.lens (m : Ms) : Prop:=(mkey m.queue m.id).length≤255∧(m.expiry≠0→(tkey m.expiry m.queue m.id).length≤255)
def Ms.fit (m : Ms) : Prop:=m.lens∧m.id < 2 ^ 64∧m.expiry < 2 ^ 64∧m.tries < 2 ^ 32∧m.body.size≤1000
theorem mkey_inj2 {q q' : ByteArray} {n n' : Nat} (hl : (mkey q n).length≤255) (hn : n < 2 ^ 64) (hn' : n' < 2 ^ 64) (e : mkey q n = mkey q' n') : q = q'∧n = n':=by
  have:=keyB_inj (mL_ok q n hn) (mL_ok q' n' hn') hl e
  simp only [mL,str,num',List.cons.injEq,Pt.mk.injEq,true_and,and_true] at this
  exact ⟨this.1,this.2⟩
theorem tkey_inj2 {a a' : Nat} {q q' : ByteArray} {n n' : Nat} (hl : (tkey a q n).length≤255) (ha : a < 2 ^ 64) (ha' : a' < 2 ^ 64) (hn : n < 2 ^ 64) (hn' : n' < 2 ^ 64) (e : tkey a q n = tkey a' q' n') : a = a'∧q = q'∧n = n':=by
  have:=keyB_inj (tL_ok a q n ha hn) (tL_ok a' q' n' ha' hn') hl e
  simp only [tL,str,num',List.cons.injEq,Pt.mk.injEq,true_and,and_true] at this
  exact ⟨this.1,this.2.1,this.2.2⟩
def Ms.bare (m : Ms) : Ms:={ m with queue:=e0 }
theorem bare_fine {m : Ms} (h : m.fit) : m.bare.fine:=⟨(by decide : e0.size≤100),h.2.1,h.2.2.1,h.2.2.2.1,h.2.2.2.2⟩
theorem mbytes_bare (m : Ms) : mbytes m.bare = mbytes m:=rfl
theorem mbytes_size2 (m : Ms) (h : m.fit) : (mbytes m).size≤1017:=by
  have:=mbytes_size m.bare (bare_fine h)
  rw [mbytes_bare] at this
  exact this
def mP (x : Ms) : List UInt8 × List UInt8:=(mkey x.queue x.id,(mbytes x).data.toList)
structure Rl (B : List Ms) (m : M) : Prop where
  fit : ∀ x ∈ B,x.fit
  sortB : B.Pairwise ltM
  sortM : SortedM m
  mem : ∀ p,p ∈ m ↔ (∃ x ∈ B,p = mP x)∨(∃ x ∈ B,x.expiry≠0∧p = tP x)
theorem Rl.nil : Rl [] []:=⟨by simp,List.Pairwise.nil,List.Pairwise.nil,by simp⟩
def remL (q : ByteArray) (n : Nat) (B : List Ms) : List Ms:=B.filter fun x=>decide (¬ (x.queue = q∧x.id = n))
theorem mem_rem {q : ByteArray} {n : Nat} {B : List Ms} {x : Ms} : x ∈ remL q n B ↔ x ∈ B∧¬ (x.queue = q∧x.id = n):=by
  unfold remL
  rw [List.mem_filter,decide_eq_true_eq]
theorem rem_sorted {q : ByteArray} {n : Nat} {B : List Ms} (h : B.Pairwise ltM) : (remL q n B).Pairwise ltM:=List.Pairwise.filter _ h
theorem Rl.look {B : List Ms} {m : M} (h : Rl B m) {x : Ms} (hx : x ∈ B) : lookM (mkey x.queue x.id) m = some (mbytes x).data.toList :=
  look_mem h.sortM (p:=mP x) ((h.mem _).2 (.inl ⟨x,hx,rfl⟩))
theorem Rl.look_none {B : List Ms} {m : M} (h : Rl B m) {q : ByteArray} {n : Nat} (hl : (mkey q n).length≤255) (hn : n < 2 ^ 64) (hno : ∀ x ∈ B,¬ (x.queue = q∧x.id = n)) : lookM (mkey q n) m = none:=by
  refine Go.Oct.look_none ?_
  intro p hp e
  rcases (h.mem p).1 hp with ⟨x,hx,rfl⟩ | ⟨x,hx,_,rfl⟩
  · have:=mkey_inj2 hl hn (h.fit x hx).2.1 e.symm
    exact hno x hx ⟨this.1.symm,this.2.symm⟩
  · exact mkey_ne_tkey _ _ _ _ _ e.symm
def putX (x : Ms) (m : M) : M:=if x.expiry = 0 then putM (mkey x.queue x.id) (mbytes x).data.toList m else putM (tk x) [] (putM (mkey x.queue x.id) (mbytes x).data.toList m)
def cutX (x : Ms) (m : M) : M:=if x.expiry = 0 then delM (mkey x.queue x.id) m else delM (tk x) (delM (mkey x.queue x.id) m)
theorem Rl.put {B : List Ms} {m : M} (h : Rl B m) {x : Ms} (hx : x.fit) (he : ∀ y ∈ B,y.queue = x.queue→y.id = x.id→y.expiry = x.expiry) : Rl (insR x (remL x.queue x.id B)) (putX x m):=by
  have hmem : ∀ y,y ∈ insR x (remL x.queue x.id B) ↔ y = x∨(y ∈ B∧¬ (y.queue = x.queue∧y.id = x.id)):=fun y=>by rw [insR_mem,mem_rem]
  have m1 : ∀ y ∈ B,mkey y.queue y.id = mkey x.queue x.id ↔ (y.queue = x.queue∧y.id = x.id):=fun y hy =>
    ⟨fun e=>mkey_inj2 (h.fit y hy).1.1 (h.fit y hy).2.1 hx.2.1 e,fun e=>by rw [e.1,e.2]⟩
  have t1 : ∀ y ∈ B,y.expiry≠0→tk y = tk x→(y.queue = x.queue∧y.id = x.id):=fun y hy h0 e=>by
    have:=tkey_inj2 ((h.fit y hy).1.2 h0) (h.fit y hy).2.2.1 hx.2.2.1 (h.fit y hy).2.1 hx.2.1 e
    exact this.2
  refine ⟨?_,insR_sorted (rem_sorted h.sortB) (fun a ha e=>(mem_rem.1 ha).2 e), ?_, ?_⟩
  · intro y hy
    rcases (hmem y).1 hy with rfl | hy
    · exact hx
    · exact h.fit y hy.1
  · unfold putX
    split
    · exact sorted_put h.sortM
    · exact sorted_put (sorted_put h.sortM)
  · intro p
    unfold putX
    by_cases h0 : x.expiry = 0
    · rw [if_pos h0,mem_put,h.mem]
      constructor
      · rintro (hp | ⟨⟨y,hy,rfl⟩ | ⟨y,hy,h1,rfl⟩,hne⟩)
        · exact .inl ⟨x,(hmem x).2 (.inl rfl),hp⟩
        · exact .inl ⟨y,(hmem y).2 (.inr ⟨hy,fun e=>hne ((m1 y hy).2 e)⟩),rfl⟩
        · exact .inr ⟨y,(hmem y).2 (.inr ⟨hy,fun e=>h1 ((he y hy e.1 e.2).trans h0)⟩),h1,rfl⟩
      · rintro (⟨y,hy,rfl⟩ | ⟨y,hy,h1,rfl⟩)
        · rcases (hmem y).1 hy with rfl | ⟨hy,hne⟩
          · exact .inl rfl
          · exact .inr ⟨.inl ⟨y,hy,rfl⟩,fun e=>hne ((m1 y hy).1 e)⟩
        · rcases (hmem y).1 hy with rfl | ⟨hy,hne⟩
          · exact (h1 h0).elim
          · exact .inr ⟨.inr ⟨y,hy,h1,rfl⟩,fun e=>mkey_ne_tkey _ _ _ _ _ e.symm⟩
    · rw [if_neg h0,mem_put,mem_put,h.mem]
      constructor
      · rintro (hp | ⟨hp | ⟨⟨y,hy,rfl⟩ | ⟨y,hy,h1,rfl⟩,hne⟩,hne2⟩)
        · exact .inr ⟨x,(hmem x).2 (.inl rfl),h0,hp⟩
        · exact .inl ⟨x,(hmem x).2 (.inl rfl),hp⟩
        · exact .inl ⟨y,(hmem y).2 (.inr ⟨hy,fun e=>hne ((m1 y hy).2 e)⟩),rfl⟩
        · refine .inr ⟨y,(hmem y).2 (.inr ⟨hy,fun e=>hne2 ?_⟩),h1,rfl⟩
          show tkey y.expiry y.queue y.id = tkey x.expiry x.queue x.id
          rw [e.1,e.2,he y hy e.1 e.2]
      · rintro (⟨y,hy,rfl⟩ | ⟨y,hy,h1,rfl⟩)
        · refine .inr ⟨?_,fun e=>mkey_ne_tkey _ _ _ _ _ e⟩
          rcases (hmem y).1 hy with rfl | ⟨hy,hne⟩
          · exact .inl rfl
          · exact .inr ⟨.inl ⟨y,hy,rfl⟩,fun e=>hne ((m1 y hy).1 e)⟩
        · rcases (hmem y).1 hy with rfl | ⟨hy,hne⟩
          · exact .inl rfl
          · exact .inr ⟨.inr ⟨.inr ⟨y,hy,h1,rfl⟩,fun e=>mkey_ne_tkey _ _ _ _ _ e.symm⟩,fun e=>hne (t1 y hy h1 e)⟩
theorem Rl.cut {B : List Ms} {m : M} (h : Rl B m) {x : Ms} (hx : x ∈ B) : Rl (remL x.queue x.id B) (cutX x m):=by
  have hxf:=h.fit x hx
  have m1 : ∀ y ∈ B,mkey y.queue y.id = mkey x.queue x.id ↔ (y.queue = x.queue∧y.id = x.id):=fun y hy =>
    ⟨fun e=>mkey_inj2 (h.fit y hy).1.1 (h.fit y hy).2.1 hxf.2.1 e,fun e=>by rw [e.1,e.2]⟩
  have t1 : ∀ y ∈ B,y.expiry≠0→tk y = tk x→(y.queue = x.queue∧y.id = x.id):=fun y hy h0 e=>by
    have:=tkey_inj2 ((h.fit y hy).1.2 h0) (h.fit y hy).2.2.1 hxf.2.2.1 (h.fit y hy).2.1 hxf.2.1 e
    exact this.2
  refine ⟨fun y hy=>h.fit y (mem_rem.1 hy).1,rem_sorted h.sortB, ?_, ?_⟩
  · unfold cutX
    split
    · exact sorted_del h.sortM
    · exact sorted_del (sorted_del h.sortM)
  · intro p
    unfold cutX
    by_cases h0 : x.expiry = 0
    · rw [if_pos h0,mem_del,h.mem]
      constructor
      · rintro ⟨⟨y,hy,rfl⟩ | ⟨y,hy,h1,rfl⟩,hne⟩
        · exact .inl ⟨y,mem_rem.2 ⟨hy,fun e=>hne ((m1 y hy).2 e)⟩,rfl⟩
        · refine .inr ⟨y,mem_rem.2 ⟨hy,fun e => ?_⟩,h1,rfl⟩
          have:=uniq_of_sorted h.sortB hy hx e.1 e.2
          rw [this] at h1; exact h1 h0
      · rintro (⟨y,hy,rfl⟩ | ⟨y,hy,h1,rfl⟩)
        · exact ⟨.inl ⟨y,(mem_rem.1 hy).1,rfl⟩,fun e=>(mem_rem.1 hy).2 ((m1 y (mem_rem.1 hy).1).1 e)⟩
        · exact ⟨.inr ⟨y,(mem_rem.1 hy).1,h1,rfl⟩,fun e=>mkey_ne_tkey _ _ _ _ _ e.symm⟩
    · rw [if_neg h0,mem_del,mem_del,h.mem]
      constructor
      · rintro ⟨⟨⟨y,hy,rfl⟩ | ⟨y,hy,h1,rfl⟩,hne⟩,hne2⟩
        · exact .inl ⟨y,mem_rem.2 ⟨hy,fun e=>hne ((m1 y hy).2 e)⟩,rfl⟩
        · refine .inr ⟨y,mem_rem.2 ⟨hy,fun e=>hne2 ?_⟩,h1,rfl⟩
          have:=uniq_of_sorted h.sortB hy hx e.1 e.2
          rw [this]; rfl
      · rintro (⟨y,hy,rfl⟩ | ⟨y,hy,h1,rfl⟩)
        · exact ⟨⟨.inl ⟨y,(mem_rem.1 hy).1,rfl⟩,fun e=>(mem_rem.1 hy).2 ((m1 y (mem_rem.1 hy).1).1 e)⟩,fun e=>mkey_ne_tkey _ _ _ _ _ e⟩
        · exact ⟨⟨.inr ⟨y,(mem_rem.1 hy).1,h1,rfl⟩,fun e=>mkey_ne_tkey _ _ _ _ _ e.symm⟩,fun e=>(mem_rem.1 hy).2 (t1 y (mem_rem.1 hy).1 h1 e)⟩
end Go.Oct
namespace Go.Oct
open Go Go.Vc Go.VrA Go.VrB Go.VrC Go.VrE
set_option maxRecDepth 100000
theorem shelf_cut (sb mb : Nat) (h0 : 0≠mb) (c : Nat) (m : M) (k : List UInt8) : (shelfC sb mb h0).cut (c,m) ⟨k.toArray⟩ = (((lookM k m).isSome,0),(c,delM k m)):=rfl
theorem esc_lt_end : ∀ (s t X : List UInt8),(esc s ++ 0 :: 0 :: X < esc t ++ [0,1]) ↔ (s < t∨s = t):=by
  intro s
  induction s with
  | nil =>
    intro t X
    cases t with
    | nil =>
      show (0 :: 0 :: X < [0,1]) ↔ _
      simp [List.cons_lt_cons_iff]
    | cons d t =>
      rw [esc_cons]
      by_cases hd : d = 0
      · subst hd
        show (0 :: 0 :: X < 0 :: 255 :: (esc t ++ [0,1])) ↔ _
        simp only [Zcd]
        exact ⟨fun _=>.inl (List.nil_lt_cons _ _),fun _=>.inr ⟨trivial,.inl (by decide)⟩⟩
      · have e : (if d = 0 then [0,255] else [d]) ++ esc t ++ [0,1] = d :: (esc t ++ [0,1]):=by simp [hd]
        rw [e]
        show (0 :: 0 :: X < d :: (esc t ++ [0,1])) ↔ _
        rw [List.cons_lt_cons_iff]
        have h0 : (0 : UInt8) < d:=by
          rw [UInt8.lt_iff_toNat_lt]
          have : d.toNat≠0:=fun x=>hd (UInt8.toNat_inj.1 (by simpa using x))
          show 0 < d.toNat
          omega
        exact ⟨fun _=>.inl (List.nil_lt_cons _ _),fun _=>.inl h0⟩
  | cons c s ih =>
    intro t X
    cases t with
    | nil =>
      rw [esc_cons]
      have hf : ¬ (c :: s < ([] : List UInt8)∨c :: s = []):=by
        rintro (h | h)
        · exact List.not_lt_nil _ h
        · cases h
      by_cases hc : c = 0
      · subst hc
        show (0 :: 255 :: (esc s ++ 0 :: 0 :: X) < [0,1]) ↔ _
        simp only [Zcd]
        exact ⟨fun h=>by
          rcases h with h | ⟨_,h | ⟨h,_⟩⟩
          · exact absurd h (by decide)
          · exact absurd h (by decide)
          · exact absurd h (by decide),fun h=>(hf h).elim⟩
      · have e : (if c = 0 then [0,255] else [c]) ++ esc s ++ 0 :: 0 :: X = c :: (esc s ++ 0 :: 0 :: X):=by simp [hc]
        rw [e]
        show (c :: (esc s ++ 0 :: 0 :: X) < [0,1]) ↔ _
        rw [List.cons_lt_cons_iff]
        exact ⟨fun h=>by
          rcases h with h | ⟨h,_⟩
          · rw [UInt8.lt_iff_toNat_lt] at h
            exact absurd h (by show ¬ c.toNat < 0; omega)
          · exact (hc h).elim,fun h=>(hf h).elim⟩
    | cons d t =>
      rw [esc_cons,esc_cons,List.cons_lt_cons_iff]
      by_cases hcd : c = d
      · subst hcd
        have hl : ((if c = 0 then [0,255] else [c]) ++ esc s ++ 0 :: 0 :: X < (if c = 0 then [0,255] else [c]) ++ esc t ++ [0,1]) ↔ (esc s ++ 0 :: 0 :: X < esc t ++ [0,1]):=by
          by_cases hc : c = 0
          · simp [hc]
          · simp [hc]
        rw [hl,ih]
        constructor
        · rintro (h | rfl)
          · exact .inl (.inr ⟨rfl,h⟩)
          · exact .inr rfl
        · rintro ((h | ⟨_,h⟩) | h)
          · exact absurd h (by rw [UInt8.lt_iff_toNat_lt]; omega)
          · exact .inl h
          · exact .inr (List.cons.inj h).2
      · have hne : ¬ (c :: s = d :: t):=fun h=>hcd (List.cons.inj h).1
        have hr : ((c < d∨c = d∧s < t)∨c :: s = d :: t) ↔ c < d:=by
          constructor
          · rintro ((h | ⟨h,_⟩) | h)
            · exact h
            · exact (hcd h).elim
            · exact (hne h).elim
          · exact fun h=>.inl (.inl h)
        rw [hr]
        by_cases hc : c = 0
        · subst hc
          have hd : ¬ d = 0:=fun x=>hcd x.symm
          have e : (if d = 0 then [0,255] else [d]) ++ esc t ++ [0,1] = d :: (esc t ++ [0,1]):=by simp [hd]
          rw [e]
          show (0 :: 255 :: (esc s ++ 0 :: 0 :: X) < d :: (esc t ++ [0,1])) ↔ _
          rw [List.cons_lt_cons_iff]
          exact ⟨fun h=>h.elim id (fun x=>(hd x.1.symm).elim),.inl⟩
        · by_cases hd : d = 0
          · subst hd
            have e : (if c = 0 then [0,255] else [c]) ++ esc s ++ 0 :: 0 :: X = c :: (esc s ++ 0 :: 0 :: X):=by simp [hc]
            rw [e]
            show (c :: (esc s ++ 0 :: 0 :: X) < 0 :: 255 :: (esc t ++ [0,1])) ↔ _
            rw [List.cons_lt_cons_iff]
            exact ⟨fun h=>h.elim id (fun x=>(hc x.1).elim),.inl⟩
          · have e : (if c = 0 then [0,255] else [c]) ++ esc s ++ 0 :: 0 :: X = c :: (esc s ++ 0 :: 0 :: X):=by simp [hc]
            have e' : (if d = 0 then [0,255] else [d]) ++ esc t ++ [0,1] = d :: (esc t ++ [0,1]):=by simp [hd]
            rw [e,e',List.cons_lt_cons_iff]
            exact ⟨fun h=>h.elim id (fun x=>(hcd x.1).elim),.inl⟩
theorem mP_sorted {D : List Ms} (h : D.Pairwise ltM) (hf : ∀ x ∈ D,x.id < 2 ^ 64) : SortedM (D.map mP):=by
  unfold SortedM
  rw [List.pairwise_map]
  refine List.Pairwise.imp_of_mem ?_ h
  intro a b ha hb hab
  show mkey a.queue a.id < mkey b.queue b.id
  rw [mkey_eq,mkey_eq,cons_lt_same,cons_lt_same,cons_lt_same,cons_lt_same,rest_lt _ _ _ _ (hf a ha) (hf b hb)]
  exact hab
def termsL (B : List Ms) : List Ms:=B.filter fun x=>decide (x.expiry≠0)
theorem Rl.length {B : List Ms} {m : M} (h : Rl B m) : m.length = B.length + (termsL B).length:=by
  have hnd : m.Nodup:=h.sortM.imp fun {a b} hab e=>by subst e; exact List.lt_irrefl _ hab
  have hm : (B.map mP).Nodup:=(mP_sorted h.sortB (fun x hx=>(h.fit x hx).2.1)).imp fun {a b} hab e=>by subst e; exact List.lt_irrefl _ hab
  have hB : B.Nodup:=h.sortB.imp fun {a b} hab e=>by subst e; exact ltM_irrefl _ hab
  have ht : ((termsL B).map tP).Nodup:=by
    unfold List.Nodup
    rw [List.pairwise_map]
    refine List.Pairwise.imp_of_mem ?_ (List.Pairwise.filter _ hB)
    intro x y hx hy hne e
    apply hne
    unfold termsL at hx hy
    rw [List.mem_filter] at hx hy
    have hxf:=h.fit x hx.1
    have hyf:=h.fit y hy.1
    have hx0 : x.expiry≠0:=by simpa using hx.2
    have:=tkey_inj2 (hxf.1.2 hx0) hxf.2.2.1 hyf.2.2.1 hxf.2.1 hyf.2.1 (congrArg Prod.fst e)
    exact uniq_of_sorted h.sortB hx.1 hy.1 this.2.1 this.2.2
  have hall : (B.map mP ++ (termsL B).map tP).Nodup:=by
    rw [List.nodup_append]
    refine ⟨hm,ht, ?_⟩
    intro p hp p' hp' e
    obtain ⟨x,_,rfl⟩:=List.mem_map.1 hp
    obtain ⟨y,_,rfl⟩:=List.mem_map.1 hp'
    exact mkey_ne_tkey _ _ _ _ _ (congrArg Prod.fst e)
  have hperm : m.Perm (B.map mP ++ (termsL B).map tP):=by
    rw [List.perm_ext_iff_of_nodup hnd hall]
    intro p
    rw [h.mem,List.mem_append,List.mem_map,List.mem_map]
    constructor
    · rintro (⟨x,hx,rfl⟩ | ⟨x,hx,h1,rfl⟩)
      · exact .inl ⟨x,hx,rfl⟩
      · exact .inr ⟨x,by unfold termsL; rw [List.mem_filter]; exact ⟨hx,by simpa using h1⟩,rfl⟩
    · rintro (⟨x,hx,rfl⟩ | ⟨x,hx,rfl⟩)
      · exact .inl ⟨x,hx,rfl⟩
      · unfold termsL at hx
        rw [List.mem_filter] at hx
        exact .inr ⟨x,hx.1,by simpa using hx.2,rfl⟩
  have:=hperm.length_eq
  simpa using this
end Go.Oct
