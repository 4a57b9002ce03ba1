import Derived.Test.YtbkddpckkgbbmaaGreatDoorVfY
import Derived.Test.YtbkddpckkgbbmaaGreatDoorVfQ
import Derived.Test.YtbkddpckkgbbmaaGreatDoorVtB
import Derived.Test.YtbkddpckkgbbmaaGreatDoorVzM
set_option linter.unusedSimpArgs false
set_option linter.unusedVariables false
set_option linter.unusedSectionVars false
set_option linter.unnecessarySimpa false
namespace Go.Oct
open Go Go.Vc Go.VrA Go.VrF
set_option maxRecDepth 100000
def qPs (q : ByteArray) : List Pt:=[str ⟨#[113]⟩,str q]
def cPs (q : ByteArray) : List Pt:=[str ⟨#[99]⟩,str q]
def bPs (b : Bi) : List Pt:=str ⟨#[98]⟩ :: bindP b
def qkey (q : ByteArray) : List UInt8:=keyB (qPs q)
def ckey (q : ByteArray) : List UInt8:=keyB (cPs q)
def bkey (b : Bi) : List UInt8:=keyB (bPs b)
theorem qkey_eq (q : ByteArray) : qkey q = 2 :: 113 :: 0 :: 0 :: (2 :: (esc q.data.toList ++ [0,0])):=by
  simp [qkey,qPs,str_bytes,keyB,esc]
theorem ckey_eq (q : ByteArray) : ckey q = 2 :: 99 :: 0 :: 0 :: (2 :: (esc q.data.toList ++ [0,0])):=by
  simp [ckey,cPs,str_bytes,keyB,esc]
theorem bkey_eq (b : Bi) : bkey b = 2 :: 98 :: 0 :: 0 :: keyB (bindP b):=by
  simp [bkey,bPs,keyB_cons,str_bytes,esc]
theorem queueK_if (q : ByteArray) : queueK q = if (qkey q).length≤255 then (⟨(qkey q).toArray⟩,0) else (e0,5):=keyL_nil _
theorem counterK_if (q : ByteArray) : counterK q = if (ckey q).length≤255 then (⟨(ckey q).toArray⟩,0) else (e0,5):=keyL_nil _
theorem bindK_if (b : Bi) : bindK b = if (bkey b).length≤255 then (⟨(bkey b).toArray⟩,0) else (e0,5):=keyL_nil _
theorem qPs_ok (q : ByteArray) : ∀ p ∈ qPs q,p.ok:=by
  intro p hp
  simp only [qPs,Zbu,Zbv,or_false] at hp
  rcases hp with rfl | rfl <;> exact str_ok _
theorem cPs_ok (q : ByteArray) : ∀ p ∈ cPs q,p.ok:=by
  intro p hp
  simp only [cPs,Zbu,Zbv,or_false] at hp
  rcases hp with rfl | rfl <;> exact str_ok _
theorem bindP_ok (b : Bi) : ∀ p ∈ bindP b,p.ok:=by
  intro p hp
  simp only [bindP,Zbu,Zbv,or_false] at hp
  rcases hp with rfl | rfl | rfl | rfl
  · exact str_ok _
  · exact num_ok _ (kindN_lt _)
  · exact str_ok _
  · exact str_ok _
theorem bPs_ok (b : Bi) : ∀ p ∈ bPs b,p.ok:=by
  intro p hp
  rcases List.mem_cons.1 hp with rfl | hp
  · exact str_ok _
  · exact bindP_ok b p hp
theorem str_inj {a b : ByteArray} (h : str a = str b) : a = b:=by simpa [str] using h
theorem qkey_inj {a b : ByteArray} (hl : (qkey a).length≤255) (e : qkey a = qkey b) : a = b:=by
  have:=keyB_inj (qPs_ok a) (qPs_ok b) hl e
  simp only [qPs,List.cons.injEq,and_true,true_and] at this
  exact str_inj this
theorem ckey_inj {a b : ByteArray} (hl : (ckey a).length≤255) (e : ckey a = ckey b) : a = b:=by
  have:=keyB_inj (cPs_ok a) (cPs_ok b) hl e
  simp only [cPs,List.cons.injEq,and_true,true_and] at this
  exact str_inj this
def Bi.inI (b : Bi) : Prop:=-9223372036854775808≤b.kind∧b.kind≤9223372036854775807
theorem kindN_inj {a b : Int} (ha : -9223372036854775808≤a∧a≤9223372036854775807) (hb : -9223372036854775808≤b∧b≤9223372036854775807) (e : kindN a = kindN b) : a = b:=by
  have h1:=kindN_eq a
  have h2:=kindN_eq b
  rw [IntKind.wrap_u64] at h1 h2
  omega
theorem bi_ext {a b : Bi} (h1 : a.ex = b.ex) (h2 : a.kind = b.kind) (h3 : a.key = b.key) (h4 : a.q = b.q) : a = b:=by
  cases a; cases b; simp_all
instance : DecidableEq Bi:=fun a b=>decidable_of_iff (a.ex = b.ex∧a.kind = b.kind∧a.key = b.key∧a.q = b.q) ⟨fun h=>bi_ext h.1 h.2.1 h.2.2.1 h.2.2.2,fun h=>by subst h; exact ⟨rfl,rfl,rfl,rfl⟩⟩
theorem bkey_inj {a b : Bi} (hl : (bkey a).length≤255) (ha : a.inI) (hb : b.inI) (e : bkey a = bkey b) : a = b:=by
  have:=keyB_inj (bPs_ok a) (bPs_ok b) hl e
  simp only [bPs,bindP,List.cons.injEq,and_true,true_and] at this
  obtain ⟨h1,h2,h3,h4⟩:=this
  refine bi_ext (str_inj h1) (kindN_inj ha hb (by simpa [num'] using h2)) (str_inj h3) (str_inj h4)
theorem q_ne_c (a b : ByteArray) : qkey a≠ckey b:=by rw [qkey_eq,ckey_eq]; simp
theorem q_ne_b (a : ByteArray) (b : Bi) : qkey a≠bkey b:=by rw [qkey_eq,bkey_eq]; simp
theorem c_ne_b (a : ByteArray) (b : Bi) : ckey a≠bkey b:=by rw [ckey_eq,bkey_eq]; simp
theorem tl_eq (a b : ByteArray) : (a.toList == b.toList) = decide (a = b):=by
  rw [ByteArray.toList_eq,ByteArray.toList_eq]
  by_cases h : a = b
  · subst h; simp
  · have : ¬ a.data.toList = b.data.toList:=fun x=>h (q_ext x)
    rw [decide_eq_false h]; simpa using this
theorem emptyB_eq (a : ByteArray) : emptyB a = decide (a = e0):=tl_eq a e0
theorem eqBi_eq (a b : Bi) : eqBi a b = decide (a = b):=by
  unfold eqBi
  rw [tl_eq,tl_eq,tl_eq]
  by_cases h : a = b
  · subst h; simp
  · rw [decide_eq_false h]
    by_cases h1 : a.ex = b.ex
    · by_cases h2 : a.kind = b.kind
      · by_cases h3 : a.key = b.key
        · by_cases h4 : a.q = b.q
          · exact (h (bi_ext h1 h2 h3 h4)).elim
          · simp [h4]
        · simp [h3]
      · simp [h2]
    · simp [h1]
theorem qu_ext {a b : Qu} (h1 : a.name = b.name) (h2 : a.most = b.most) (h3 : a.ttl = b.ttl) (h4 : a.tries = b.tries) (h5 : a.dead = b.dead) : a = b:=by
  cases a; cases b; simp_all
instance : DecidableEq Qu:=fun a b=>decidable_of_iff (a.name = b.name∧a.most = b.most∧a.ttl = b.ttl∧a.tries = b.tries∧a.dead = b.dead) ⟨fun h=>qu_ext h.1 h.2.1 h.2.2.1 h.2.2.2.1 h.2.2.2.2,fun h=>by subst h; exact ⟨rfl,rfl,rfl,rfl,rfl⟩⟩
theorem nameB_size {s : ByteArray} (h : nameB s = true) : s.size≤32∧s≠e0:=by
  unfold nameB at h
  simp only [Zbo,decide_eq_true_eq,Bool.not_eq_true'] at h
  refine ⟨h.1.2, ?_⟩
  intro e
  subst e
  have:=h.1.1
  simp [ByteArray.toList_eq,e0] at this
theorem qkey_length (q : ByteArray) : (qkey q).length = 7 + (esc q.data.toList).length:=by
  rw [qkey_eq]; simp; omega
theorem qkey_name {q : ByteArray} (h : nameB q = true) : (qkey q).length≤255:=by
  have:=esc_le q
  have:=(nameB_size h).1
  rw [qkey_length]; omega
theorem qbytes_list (q : Qu) : (qbytes q).data.toList = [1] ++ (bigL q.most 4 ++ (bigL q.ttl 8 ++ (bigL q.tries 4 ++ (bigL (q.dead.size % 2 ^ 32) 4 ++ q.dead.data.toList)))):=by
  unfold qbytes qput textB
  simp only [Zcl,Zcj,big_toList]
  have : bigL 1 1 = [1]:=by decide
  rw [this]
  simp
def Qu.fine (q : Qu) : Prop:=q.most < 2 ^ 32∧q.ttl < 2 ^ 64∧q.tries < 2 ^ 32∧q.dead.size≤32
theorem qread_qbytes (name : ByteArray) (q : Qu) (h : q.fine) : qread name ⟨(qbytes q).data.toList.toArray⟩ = ({ q with name:=name },0):=by
  obtain ⟨h2,h3,h4,h5⟩:=h
  have hmod : q.dead.size % 2 ^ 32 = q.dead.size:=Nat.mod_eq_of_lt (by omega)
  have e1 : number (⟨([1] ++ (bigL q.most 4 ++ (bigL q.ttl 8 ++ (bigL q.tries 4 ++ (bigL (q.dead.size % 2 ^ 32) 4 ++ q.dead.data.toList))))).toArray⟩,0) 1 = (1,(⟨(bigL q.most 4 ++ (bigL q.ttl 8 ++ (bigL q.tries 4 ++ (bigL (q.dead.size % 2 ^ 32) 4 ++ q.dead.data.toList)))).toArray⟩,0)):=number_cons 1 _
  have e2:=number_bigL 4 q.most (by simpa using h2) (by decide) (bigL q.ttl 8 ++ (bigL q.tries 4 ++ (bigL (q.dead.size % 2 ^ 32) 4 ++ q.dead.data.toList)))
  have e3:=number_bigL 8 q.ttl (by simpa using h3) (by decide) (bigL q.tries 4 ++ (bigL (q.dead.size % 2 ^ 32) 4 ++ q.dead.data.toList))
  have e3b:=number_bigL 4 q.tries (by simpa using h4) (by decide) (bigL (q.dead.size % 2 ^ 32) 4 ++ q.dead.data.toList)
  have e4:=number_bigL 4 (q.dead.size % 2 ^ 32) (by omega) (by decide) q.dead.data.toList
  have e5 : take (⟨q.dead.data.toList.toArray⟩,0) (q.dead.size : Int) = (q.dead,(⟨#[]⟩,0)):=by
    have:=take_app q.dead.data.toList []
    rw [List.append_nil,Array.length_toList] at this
    exact this
  have hv : ver (⟨(qbytes q).data.toList.toArray⟩,0) = (⟨(bigL q.most 4 ++ (bigL q.ttl 8 ++ (bigL q.tries 4 ++ (bigL (q.dead.size % 2 ^ 32) 4 ++ q.dead.data.toList)))).toArray⟩,0):=by
    unfold ver
    rw [qbytes_list q,e1]
    rfl
  have ht : text (⟨(bigL (q.dead.size % 2 ^ 32) 4 ++ q.dead.data.toList).toArray⟩,0) 32 = (q.dead,(⟨#[]⟩,0)):=by
    unfold text
    have e4' : number (⟨(bigL (q.dead.size % 2 ^ 32) 4 ++ q.dead.data.toList).toArray⟩,0) 4 = (q.dead.size % 2 ^ 32,(⟨q.dead.data.toList.toArray⟩,0)):=e4
    rw [e4']
    simp only []
    rw [hmod,hmod,if_neg,e5]
    show ¬ q.dead.size > 32
    omega
  unfold qread qget
  rw [hv]
  have e2' : number (⟨(bigL q.most 4 ++ (bigL q.ttl 8 ++ (bigL q.tries 4 ++ (bigL (q.dead.size % 2 ^ 32) 4 ++ q.dead.data.toList)))).toArray⟩,0) 4 = _:=e2
  have e3' : number (⟨(bigL q.ttl 8 ++ (bigL q.tries 4 ++ (bigL (q.dead.size % 2 ^ 32) 4 ++ q.dead.data.toList))).toArray⟩,0) 8 = _:=e3
  have e3b' : number (⟨(bigL q.tries 4 ++ (bigL (q.dead.size % 2 ^ 32) 4 ++ q.dead.data.toList)).toArray⟩,0) 4 = _:=e3b
  simp only [e2',e3',e3b',ht]
  rw [Nat.mod_eq_of_lt (a:=q.most) (by omega),Nat.mod_eq_of_lt (a:=q.tries) (by omega)]
  have : ende ((⟨#[]⟩ : ByteArray),(0 : Int)) = 0:=by unfold ende; simp [ByteArray.size]
  rw [this]
  simp
theorem qbytes_size (q : Qu) (h : q.fine) : (qbytes q).size≤53:=by
  have e : (qbytes q).size = (qbytes q).data.toList.length:=by rw [Array.length_toList]; rfl
  have h4:=h.2.2.2
  have e2 : q.dead.data.size = q.dead.size:=rfl
  rw [e,qbytes_list]
  simp only [Zby,bigL_length,Zai,Zaj,Array.length_toList]
  omega
theorem cbytes_list (n : Nat) : (cbytes n).data.toList = [1] ++ bigL n 8:=by
  unfold cbytes
  simp only [Zcl,Zcj,big_toList]
  have : bigL 1 1 = [1]:=by decide
  rw [this]
theorem cread_cbytes (n : Nat) (h : n < 2 ^ 64) : cread ⟨(cbytes n).data.toList.toArray⟩ = (n,0):=by
  have e1 : number (⟨([1] ++ bigL n 8).toArray⟩,0) 1 = (1,(⟨(bigL n 8).toArray⟩,0)):=number_cons 1 _
  have e3:=number_bigL 8 n (by simpa using h) (by decide) []
  rw [List.append_nil] at e3
  have hv : ver (⟨(cbytes n).data.toList.toArray⟩,0) = (⟨(bigL n 8).toArray⟩,0):=by
    unfold ver
    rw [cbytes_list,e1]
    rfl
  unfold cread
  rw [hv]
  have e3' : number (⟨(bigL n 8).toArray⟩,0) 8 = _:=e3
  simp only [e3']
  have : ende ((⟨#[]⟩ : ByteArray),(0 : Int)) = 0:=by unfold ende; simp [ByteArray.size]
  have h0 : (⟨([] : List UInt8).toArray⟩ : ByteArray) = ⟨#[]⟩:=rfl
  rw [h0,this]
  simp
theorem parse_bkey (b : Bi) (hl : (bkey b).length≤255) (hk : 0≤b.kind∧b.kind≤9223372036854775807) : (parseR ⟨(bkey b).toArray⟩).2 = 0∧(parseR ⟨(bkey b).toArray⟩).1.binding = b:=by
  have hp:=partsR_key (bPs b) (bPs_ok b) hl
  have h : fitsR (bindP b) (shapeR ⟨#[98]⟩) = true:=by
    rw [show shapeR ⟨#[98]⟩ = ⟨#[115,110,115,115]⟩ by simp [shapeR,ByteArray.toList_eq]]
    simp [fitsR,fitsL,num',str,bindP]
    decide
  have hp' : partsR ⟨(bkey b).toArray⟩ = (bPs b,0):=hp
  have hkn : ((kindN b.kind : Nat) : Int) = b.kind:=by rw [← kindN_eq,IntKind.wrap_u64]; omega
  have e : parseR ⟨(bkey b).toArray⟩ = ({ th0 with sort:=⟨#[98]⟩,bx:=b.ex,bkind:=kindN b.kind,bkey:=b.key,bq:=b.q },0):=by
    unfold parseR
    rw [hp',if_neg (by simp)]
    show parseL (str ⟨#[98]⟩ :: bindP b) = _
    rw [parseL_cons,if_neg]
    · have : ¬ kindN b.kind > 9223372036854775807:=by omega
      simp [thOf,ByteArray.toList_eq,str,num',bindP,this]
    · simp only [str] at h ⊢
      rw [h]; simp
  rw [e]
  refine ⟨rfl, ?_⟩
  unfold Th.binding
  exact bi_ext rfl hkn rfl rfl
end Go.Oct
namespace Go.Oct
open Go Go.Vc Go.VrA Go.VrF
set_option maxRecDepth 100000
def qP (q : Qu) : List UInt8 × List UInt8:=(qkey q.name,(qbytes q).data.toList)
def bP (b : Bi) : List UInt8 × List UInt8:=(bkey b,[])
def cP (c : Ct) : List UInt8 × List UInt8:=(ckey c.name,(cbytes c.n).data.toList)
def Bi.right (b : Bi) : Prop:=nameB b.ex = true∧nameB b.q = true∧1≤b.kind∧b.kind≤3∧(bkey b).length≤255
theorem Bi.right.inI {b : Bi} (h : b.right) : b.inI:=⟨by have:=h.2.2.1; omega,by have:=h.2.2.2.1; omega⟩
structure Rg (B : Bk) (m : M) : Prop where
  qn : ∀ q ∈ B.qs,nameB q.name = true∧q.fine
  qd : B.qs.Pairwise fun a b=>a.name≠b.name
  bn : ∀ b ∈ B.bs,b.right
  bd : B.bs.Nodup
  bk : ∀ a ∈ B.bs,∀ b ∈ B.bs,a.ex = b.ex→a.kind = b.kind
  cn : ∀ c ∈ B.cs,(ckey c.name).length≤255∧c.n < 2 ^ 64
  cd : B.cs.Pairwise fun a b=>a.name≠b.name
  so : SortedM m
  mem : ∀ p,p ∈ m ↔ (∃ q ∈ B.qs,p = qP q)∨(∃ b ∈ B.bs,p = bP b)∨(∃ c ∈ B.cs,p = cP c)
def bk0 : Bk:=⟨[],[],[]⟩
theorem Rg.nil : Rg bk0 []:=⟨by simp [bk0],List.Pairwise.nil,by simp [bk0],List.nodup_nil,by simp [bk0],by simp [bk0],List.Pairwise.nil,List.Pairwise.nil,by simp [bk0]⟩
section
variable {B : Bk} {m : M} (h : Rg B m)
include h
theorem Rg.look_q {q : Qu} (hq : q ∈ B.qs) : lookM (qkey q.name) m = some (qbytes q).data.toList:=look_mem h.so (p:=qP q) ((h.mem _).2 (.inl ⟨q,hq,rfl⟩))
theorem Rg.look_c {c : Ct} (hc : c ∈ B.cs) : lookM (ckey c.name) m = some (cbytes c.n).data.toList:=look_mem h.so (p:=cP c) ((h.mem _).2 (.inr (.inr ⟨c,hc,rfl⟩)))
theorem Rg.look_b {b : Bi} (hb : b ∈ B.bs) : lookM (bkey b) m = some []:=look_mem h.so (p:=bP b) ((h.mem _).2 (.inr (.inl ⟨b,hb,rfl⟩)))
theorem Rg.look_q_none {n : ByteArray} (hl : (qkey n).length≤255) (hno : ∀ q ∈ B.qs,q.name≠n) : lookM (qkey n) m = none:=by
  refine look_none ?_
  intro p hp e
  rcases (h.mem p).1 hp with ⟨q,hq,rfl⟩ | ⟨b,hb,rfl⟩ | ⟨c,hc,rfl⟩
  · exact hno q hq (qkey_inj hl e.symm).symm
  · exact q_ne_b _ _ e.symm
  · exact q_ne_c _ _ e.symm
theorem Rg.look_c_none {n : ByteArray} (hl : (ckey n).length≤255) (hno : ∀ q ∈ B.cs,q.name≠n) : lookM (ckey n) m = none:=by
  refine look_none ?_
  intro p hp e
  rcases (h.mem p).1 hp with ⟨q,hq,rfl⟩ | ⟨b,hb,rfl⟩ | ⟨c,hc,rfl⟩
  · exact q_ne_c _ _ e
  · exact c_ne_b _ _ e.symm
  · exact hno c hc (ckey_inj hl e.symm).symm
theorem Rg.look_b_none {x : Bi} (hl : (bkey x).length≤255) (hx : x.inI) (hno : x ∉ B.bs) : lookM (bkey x) m = none:=by
  refine look_none ?_
  intro p hp e
  rcases (h.mem p).1 hp with ⟨q,hq,rfl⟩ | ⟨b,hb,rfl⟩ | ⟨c,hc,rfl⟩
  · exact q_ne_b _ _ e
  · have:=bkey_inj hl hx (h.bn b hb).inI e.symm
    rw [this] at hno
    exact hno hb
  · exact c_ne_b _ _ e
theorem Rg.vals : ∀ p ∈ m,p.2.length≤53:=by
  intro p hp
  rcases (h.mem p).1 hp with ⟨q,hq,rfl⟩ | ⟨b,hb,rfl⟩ | ⟨c,hc,rfl⟩
  · show (qbytes q).data.toList.length≤53
    have:=qbytes_size q (h.qn q hq).2
    rw [Array.length_toList]; exact this
  · show ([] : List UInt8).length≤53
    decide
  · show (cbytes c.n).data.toList.length≤53
    have:=cbytes_size c.n
    rw [Array.length_toList]
    have e : (cbytes c.n).data.size = (cbytes c.n).size:=rfl
    omega
end
def getQ (name : ByteArray) : List Qu→Qu × Int
  | []=>(q0,21)
  | q :: l=>if q.name = name then (q,0) else getQ name l
theorem getQ_in {name : ByteArray} : ∀ {l : List Qu},(∃ q ∈ l,q.name = name)→(getQ name l).2 = 0∧(getQ name l).1 ∈ l∧(getQ name l).1.name = name:=by
  intro l
  induction l with
  | nil=>rintro ⟨q,hq,_⟩; cases hq
  | cons x l ih =>
    rintro ⟨q,hq,hn⟩
    unfold getQ
    by_cases hx : x.name = name
    · rw [if_pos hx]; exact ⟨rfl,by simp,hx⟩
    · rw [if_neg hx]
      rcases List.mem_cons.1 hq with rfl | hq
      · exact (hx hn).elim
      · obtain ⟨a,b,c⟩:=ih ⟨q,hq,hn⟩
        exact ⟨a,by simp [b],c⟩
theorem getQ_out {name : ByteArray} : ∀ {l : List Qu},(¬ ∃ q ∈ l,q.name = name)→getQ name l = (q0,21):=by
  intro l
  induction l with
  | nil=>intro _; rfl
  | cons x l ih =>
    intro hn
    unfold getQ
    rw [if_neg (fun e=>hn ⟨x,by simp,e⟩),ih (fun ⟨q,hq,e⟩=>hn ⟨q,by simp [hq],e⟩)]
theorem bfind_iff (name : ByteArray) : ∀ (l : List Qu) (i : Nat),(0≤bfind name l i ↔ ∃ q ∈ l,q.name = name):=by
  intro l
  induction l with
  | nil=>intro i; simp [bfind]
  | cons x l ih =>
    intro i
    unfold bfind
    rw [tl_eq]
    by_cases hx : x.name = name
    · rw [decide_eq_true hx,if_pos rfl]
      exact ⟨fun _=>⟨x,by simp,hx⟩,fun _=>by omega⟩
    · rw [decide_eq_false hx,if_neg (by simp),ih]
      simp [hx]
theorem bfind_bound (name : ByteArray) : ∀ (l : List Qu) (i : Nat),bfind name l i = -1∨0≤bfind name l i:=by
  intro l
  induction l with
  | nil=>intro i; exact .inl rfl
  | cons x l ih =>
    intro i
    unfold bfind
    split
    · exact .inr (by omega)
    · exact ih _
theorem name_uniq {l : List Qu} (hd : l.Pairwise fun a b=>a.name≠b.name) {a b : Qu} (ha : a ∈ l) (hb : b ∈ l) (e : a.name = b.name) : a = b:=by
  induction l with
  | nil=>cases ha
  | cons x l ih =>
    have hd':=List.pairwise_cons.1 hd
    rcases List.mem_cons.1 ha with rfl | ha' <;> rcases List.mem_cons.1 hb with rfl | hb'
    · rfl
    · exact (hd'.1 b hb' e).elim
    · exact (hd'.1 a ha' e.symm).elim
    · exact ih hd'.2 ha' hb'
theorem find_shelf2 (sb mb : Nat) (h0 : 0≠mb) (c : Nat) {B : Bk} {m : M} (h : Rg B m) (name : ByteArray) : (shelf sb mb h0).find (c,m) name = (getQ name B.qs,(c,m)):=by
  unfold Sto.find
  rw [queueK_if]
  by_cases hl : (qkey name).length≤255
  · rw [if_pos hl,if_neg (by simp)]
    show (findR name ((shelf sb mb h0).get (c,m) ⟨(qkey name).toArray⟩).1,((shelf sb mb h0).get (c,m) ⟨(qkey name).toArray⟩).2) = _
    rw [shelf_get]
    unfold findR
    simp only []
    rw [if_neg (by simp)]
    by_cases hx : ∃ q ∈ B.qs,q.name = name
    · obtain ⟨e0',e1,e2⟩:=getQ_in hx
      have hlook:=h.look_q e1
      rw [e2] at hlook
      rw [hlook,if_neg (by simp)]
      have:=qread_qbytes name (getQ name B.qs).1 (h.qn _ e1).2
      simp only [Zab]
      rw [this]
      have e3 : ({ (getQ name B.qs).1 with name:=name } : Qu) = (getQ name B.qs).1:=qu_ext e2.symm rfl rfl rfl rfl
      rw [e3]
      exact Prod.ext (Prod.ext rfl e0'.symm) rfl
    · rw [h.look_q_none hl (fun q hq e=>hx ⟨q,hq,e⟩),if_pos (by simp),getQ_out hx]
  · rw [if_neg hl,if_pos (by simp)]
    have : ¬ ∃ q ∈ B.qs,q.name = name:=by
      rintro ⟨q,hq,rfl⟩
      exact hl (qkey_name (h.qn q hq).1)
    rw [getQ_out this]
theorem getQ_2 (name : ByteArray) (l : List Qu) : (getQ name l).2 = if 0≤bfind name l 0 then 0 else 21:=by
  by_cases hx : ∃ q ∈ l,q.name = name
  · rw [if_pos ((bfind_iff name l 0).2 hx),(getQ_in hx).1]
  · rw [if_neg (fun e=>hx ((bfind_iff name l 0).1 e)),getQ_out hx]
theorem Rg.put_q {B : Bk} {m : M} (h : Rg B m) {q : Qu} (hn : nameB q.name = true) (hf : q.fine) (hno : ∀ x ∈ B.qs,x.name≠q.name) : Rg { B with qs:=B.qs ++ [q] } (putM (qkey q.name) (qbytes q).data.toList m):=by
  have hl:=qkey_name hn
  refine ⟨?_, ?_,h.bn,h.bd,h.bk,h.cn,h.cd,sorted_put h.so, ?_⟩
  · intro x hx
    rcases List.mem_append.1 hx with hx | hx
    · exact h.qn x hx
    · rw [List.mem_singleton.1 hx]; exact ⟨hn,hf⟩
  · refine List.pairwise_append.2 ⟨h.qd,by simp, ?_⟩
    intro a ha b hb
    rw [List.mem_singleton.1 hb]
    exact hno a ha
  · intro p
    rw [mem_put,h.mem]
    constructor
    · rintro (rfl | ⟨(⟨x,hx,rfl⟩ | hx | hx),hne⟩)
      · exact .inl ⟨q,by simp,rfl⟩
      · exact .inl ⟨x,by simp [hx],rfl⟩
      · exact .inr (.inl hx)
      · exact .inr (.inr hx)
    · rintro (⟨x,hx,rfl⟩ | ⟨x,hx,rfl⟩ | ⟨x,hx,rfl⟩)
      · rcases List.mem_append.1 hx with hx | hx
        · exact .inr ⟨.inl ⟨x,hx,rfl⟩,fun e=>hno x hx (qkey_inj hl e.symm).symm⟩
        · rw [List.mem_singleton.1 hx]; exact .inl rfl
      · exact .inr ⟨.inr (.inl ⟨x,hx,rfl⟩),fun e=>q_ne_b _ _ e.symm⟩
      · exact .inr ⟨.inr (.inr ⟨x,hx,rfl⟩),fun e=>q_ne_c _ _ e.symm⟩
theorem Rg.put_b {B : Bk} {m : M} (h : Rg B m) {b : Bi} (hr : b.right) (hno : b ∉ B.bs) (hk : ∀ a ∈ B.bs,a.ex = b.ex→a.kind = b.kind) : Rg { B with bs:=B.bs ++ [b] } (putM (bkey b) [] m):=by
  refine ⟨h.qn,h.qd, ?_, ?_, ?_,h.cn,h.cd,sorted_put h.so, ?_⟩
  · intro x hx
    rcases List.mem_append.1 hx with hx | hx
    · exact h.bn x hx
    · rw [List.mem_singleton.1 hx]; exact hr
  · refine List.nodup_append.2 ⟨h.bd,by simp, ?_⟩
    intro a ha c hc
    rw [List.mem_singleton.1 hc]
    rintro rfl
    exact hno ha
  · intro x hx y hy e
    rcases List.mem_append.1 hx with hx | hx <;> rcases List.mem_append.1 hy with hy | hy
    · exact h.bk x hx y hy e
    · rw [List.mem_singleton.1 hy] at e ⊢
      exact hk x hx e
    · rw [List.mem_singleton.1 hx] at e ⊢
      exact (hk y hy e.symm).symm
    · rw [List.mem_singleton.1 hx,List.mem_singleton.1 hy]
  · intro p
    rw [mem_put,h.mem]
    constructor
    · rintro (rfl | ⟨(hx | ⟨x,hx,rfl⟩ | hx),hne⟩)
      · exact .inr (.inl ⟨b,by simp,rfl⟩)
      · exact .inl hx
      · exact .inr (.inl ⟨x,by simp [hx],rfl⟩)
      · exact .inr (.inr hx)
    · rintro (⟨x,hx,rfl⟩ | ⟨x,hx,rfl⟩ | ⟨x,hx,rfl⟩)
      · exact .inr ⟨.inl ⟨x,hx,rfl⟩,fun e=>q_ne_b _ _ e⟩
      · rcases List.mem_append.1 hx with hx | hx
        · refine .inr ⟨.inr (.inl ⟨x,hx,rfl⟩),fun e => ?_⟩
          have:=bkey_inj hr.2.2.2.2 hr.inI (h.bn x hx).inI e.symm
          rw [this] at hno
          exact hno hx
        · rw [List.mem_singleton.1 hx]; exact .inl rfl
      · exact .inr ⟨.inr (.inr ⟨x,hx,rfl⟩),fun e=>c_ne_b _ _ e⟩
def otherC (name : ByteArray) (l : List Ct) : List Ct:=l.filter fun c => !(c.name.toList == name.toList)
theorem mem_otherC {name : ByteArray} {l : List Ct} {c : Ct} : c ∈ otherC name l ↔ c ∈ l∧c.name≠name:=by
  unfold otherC
  rw [List.mem_filter,tl_eq]
  simp
theorem Rg.put_c {B : Bk} {m : M} (h : Rg B m) {c : Ct} (hl : (ckey c.name).length≤255) (hn : c.n < 2 ^ 64) : Rg { B with cs:=otherC c.name B.cs ++ [c] } (putM (ckey c.name) (cbytes c.n).data.toList m):=by
  refine ⟨h.qn,h.qd,h.bn,h.bd,h.bk, ?_, ?_,sorted_put h.so, ?_⟩
  · intro x hx
    rcases List.mem_append.1 hx with hx | hx
    · exact h.cn x (mem_otherC.1 hx).1
    · rw [List.mem_singleton.1 hx]; exact ⟨hl,hn⟩
  · refine List.pairwise_append.2 ⟨List.Pairwise.filter _ h.cd,by simp, ?_⟩
    intro a ha b hb
    rw [List.mem_singleton.1 hb]
    exact (mem_otherC.1 ha).2
  · intro p
    rw [mem_put,h.mem]
    constructor
    · rintro (rfl | ⟨(hx | hx | ⟨x,hx,rfl⟩),hne⟩)
      · exact .inr (.inr ⟨c,by simp,rfl⟩)
      · exact .inl hx
      · exact .inr (.inl hx)
      · refine .inr (.inr ⟨x,List.mem_append.2 (.inl (mem_otherC.2 ⟨hx,fun e=>hne ?_⟩)),rfl⟩)
        show ckey x.name = _
        rw [e]
    · rintro (⟨x,hx,rfl⟩ | ⟨x,hx,rfl⟩ | ⟨x,hx,rfl⟩)
      · exact .inr ⟨.inl ⟨x,hx,rfl⟩,fun e=>q_ne_c _ _ e⟩
      · exact .inr ⟨.inr (.inl ⟨x,hx,rfl⟩),fun e=>c_ne_b _ _ e.symm⟩
      · rcases List.mem_append.1 hx with hx | hx
        · obtain ⟨h1,h2⟩:=mem_otherC.1 hx
          exact .inr ⟨.inr (.inr ⟨x,h1,rfl⟩),fun e=>h2 (ckey_inj hl e.symm).symm⟩
        · rw [List.mem_singleton.1 hx]; exact .inl rfl
theorem Rg.cut {B : Bk} {m m' : M} (h : Rg B m) (fq : Qu→Bool) (fb : Bi→Bool) (hs : SortedM m') (hm : ∀ p,p ∈ m' ↔ p ∈ m∧(∀ q ∈ B.qs,fq q = false→p.1≠qkey q.name)∧(∀ b ∈ B.bs,fb b = false→p.1≠bkey b)) :
    Rg { B with qs:=B.qs.filter fq,bs:=B.bs.filter fb } m':=by
  refine ⟨fun q hq=>h.qn q (List.mem_filter.1 hq).1,List.Pairwise.filter _ h.qd,fun b hb=>h.bn b (List.mem_filter.1 hb).1,h.bd.filter _,fun a ha b hb=>h.bk a (List.mem_filter.1 ha).1 b (List.mem_filter.1 hb).1,h.cn,h.cd,hs, ?_⟩
  intro p
  rw [hm,h.mem]
  constructor
  · rintro ⟨(⟨x,hx,rfl⟩ | ⟨x,hx,rfl⟩ | hx),h1,h2⟩
    · refine .inl ⟨x,List.mem_filter.2 ⟨hx, ?_⟩,rfl⟩
      cases hf : fq x with
      | true=>rfl
      | false=>exact (h1 x hx hf rfl).elim
    · refine .inr (.inl ⟨x,List.mem_filter.2 ⟨hx, ?_⟩,rfl⟩)
      cases hf : fb x with
      | true=>rfl
      | false=>exact (h2 x hx hf rfl).elim
    · exact .inr (.inr hx)
  · rintro (⟨x,hx,rfl⟩ | ⟨x,hx,rfl⟩ | ⟨x,hx,rfl⟩)
    · obtain ⟨hx,hf⟩:=List.mem_filter.1 hx
      refine ⟨.inl ⟨x,hx,rfl⟩,fun q hq hfq e => ?_,fun b _ _ e=>q_ne_b _ _ e⟩
      have:=name_uniq h.qd hx hq (qkey_inj (qkey_name (h.qn x hx).1) e)
      rw [this,hfq] at hf; cases hf
    · obtain ⟨hx,hf⟩:=List.mem_filter.1 hx
      refine ⟨.inr (.inl ⟨x,hx,rfl⟩),fun q _ _ e=>q_ne_b _ _ e.symm,fun b hb hfb e => ?_⟩
      have:=bkey_inj (h.bn x hx).2.2.2.2 (h.bn x hx).inI (h.bn b hb).inI e
      rw [this,hfb] at hf; cases hf
    · exact ⟨.inr (.inr ⟨x,hx,rfl⟩),fun q _ _ e=>q_ne_c _ _ e.symm,fun b _ _ e=>c_ne_b _ _ e⟩
end Go.Oct
namespace Go.Oct
open Go Go.Vc Go.VrA Go.VrF
set_option maxRecDepth 100000
theorem of_pairs {α : Type} (f : α→List UInt8 × List UInt8) (P : α→Prop) : ∀ (L : M),(∀ p ∈ L,∃ a,P a∧p = f a)→∃ D : List α,L = D.map f∧∀ a ∈ D,P a:=by
  intro L
  induction L with
  | nil=>intro _; exact ⟨[],rfl,by simp⟩
  | cons p L ih =>
    intro h
    obtain ⟨a,ha,e⟩:=h p (by simp)
    obtain ⟨D,h1,h2⟩:=ih (fun q hq=>h q (by simp [hq]))
    refine ⟨a :: D,by rw [h1,e]; rfl, ?_⟩
    intro x hx
    rcases List.mem_cons.1 hx with rfl | hx
    · exact ha
    · exact h2 x hx
theorem row_things {α : Type} (f : α→List UInt8 × List UInt8) (l : List α) (hinj : ∀ a ∈ l,∀ b ∈ l,f a = f b→a = b) (L : M) (hs : SortedM L) (hm : ∀ p,p ∈ L ↔ ∃ a ∈ l,p = f a) :
    ∃ D : List α,L = D.map f∧(∀ a,a ∈ D ↔ a ∈ l)∧D.Nodup:=by
  obtain ⟨D,h1,h2⟩:=of_pairs f (fun a=>a ∈ l) L (fun p hp=>by obtain ⟨a,ha,e⟩:=(hm p).1 hp; exact ⟨a,ha,e⟩)
  refine ⟨D,h1,fun a=>⟨h2 a,fun ha => ?_⟩, ?_⟩
  · have:=(hm (f a)).2 ⟨a,ha,rfl⟩
    rw [h1,List.mem_map] at this
    obtain ⟨b,hb,e⟩:=this
    rw [hinj b (h2 b hb) a ha e] at hb
    exact hb
  · have h3 : (D.map f).Pairwise fun p q=>p.1 < q.1:=by rw [← h1]; exact hs
    rw [List.pairwise_map] at h3
    refine h3.imp ?_
    intro a b hab e
    rw [e] at hab
    exact lt_irrefl' _ hab
theorem bless (a b : List UInt8) : Op.bytesLess a b = decide (a < b):=Go.Proofs.bytesLess_eq a b
theorem inR_iff (a b : List UInt8) (p : List UInt8 × List UInt8) : inR a b p = true ↔ ¬ p.1 < a∧(b = []∨p.1 < b):=by
  unfold inR
  rw [bless,bless]
  by_cases h1 : p.1 < a
  · simp [h1]
  · by_cases h2 : b = []
    · simp [h1,h2]
    · simp [h1,h2]
theorem nat_lt8 (a b : UInt8) : a < b ↔ a.toNat < b.toNat:=UInt8.lt_iff_toNat_lt
theorem in_b (b : Bi) (v : List UInt8) : inR [2,98,0,0] [2,98,0,1] (bkey b,v) = true:=by
  rw [inR_iff,bkey_eq]
  refine ⟨?_,.inr ?_⟩
  · simp only [Zcd,nat_lt8]; simp [List.not_lt_nil]
  · simp only [Zcd,nat_lt8]; simp
theorem out_bc (q : ByteArray) (v : List UInt8) : inR [2,98,0,0] [2,98,0,1] (ckey q,v) = false:=by
  rw [← Bool.not_eq_true,inR_iff,ckey_eq]
  intro h
  rcases h.2 with h | h
  · cases h
  · revert h
    simp only [Zcd,nat_lt8]; simp
theorem out_bq (q : ByteArray) (v : List UInt8) : inR [2,98,0,0] [2,98,0,1] (qkey q,v) = false:=by
  rw [← Bool.not_eq_true,inR_iff,qkey_eq]
  intro h
  rcases h.2 with h | h
  · cases h
  · revert h
    simp only [Zcd,nat_lt8]; simp
def xLo (ex : ByteArray) : List UInt8:=2 :: 98 :: 0 :: 0 :: 2 :: (esc ex.data.toList ++ [0,0])
def xHi (ex : ByteArray) : List UInt8:=2 :: 98 :: 0 :: 0 :: 2 :: (esc ex.data.toList ++ [0,1])
theorem under_x (ex : ByteArray) (hl : (xLo ex).length≤255) : underK ⟨#[98]⟩ [str ex] = (⟨(xLo ex).toArray⟩,⟨(xHi ex).toArray⟩):=by
  have e : keyB [str ⟨#[98]⟩,str ex] = 2 :: 98 :: 0 :: 0 :: 2 :: (esc ex.data.toList ++ [0]) ++ [0]:=by
    show (str ⟨#[98]⟩).bytes ++ ((str ex).bytes ++ []) = _
    rw [str_bytes,str_bytes,List.append_nil]
    have e : (esc (⟨#[98]⟩ : ByteArray).data.toList) = [98]:=rfl
    rw [e]; simp
  have hk : keyL [str ⟨#[98]⟩,str ex] [] = (⟨(2 :: 98 :: 0 :: 0 :: 2 :: (esc ex.data.toList ++ [0]) ++ [0]).toArray⟩,0):=by
    rw [keyL_nil,e,if_pos]
    unfold xLo at hl
    simp only [Zai,Zby,Zaj] at hl ⊢; omega
  unfold underK
  rw [hk,if_neg (by simp)]
  generalize hP : 2 :: 98 :: 0 :: 0 :: 2 :: (esc ex.data.toList ++ [0]) = P
  have hP' : xHi ex = P ++ [1]:=by rw [← hP]; simp [xHi]
  have hP0 : xLo ex = P ++ [0]:=by rw [← hP]; simp [xLo]
  rw [hP',hP0]
  have hs : (⟨(P ++ [0]).toArray⟩ : ByteArray).size = P.length + 1:=by simp [ByteArray.size]
  have ha : after ⟨(P ++ [0]).toArray⟩ = (⟨(P ++ [1]).toArray⟩,true):=by
    unfold after
    rw [hs]
    unfold afterN
    have hg : (⟨(P ++ [0]).toArray⟩ : ByteArray).data[P.length]? = some 0:=by simp
    rw [hg,if_pos (by decide)]
    have hx : (⟨(P ++ [0]).toArray⟩ : ByteArray).extract 0 P.length = ⟨P.toArray⟩:=by
      apply ByteArray.ext
      rw [ByteArray.data_extract]
      apply Array.ext'
      simp
    rw [hx]
    refine Prod.ext ?_ rfl
    apply ByteArray.ext
    apply Array.ext'
    simp only [Zcl,Zcj,big_toList]
    rfl
  rw [ha]
theorem under_x_none (ex : ByteArray) (hl : ¬ (xLo ex).length≤255) : underK ⟨#[98]⟩ [str ex] = (e0,e0):=by
  have e : keyB [str ⟨#[98]⟩,str ex] = xLo ex:=by
    show (str ⟨#[98]⟩).bytes ++ ((str ex).bytes ++ []) = _
    rw [str_bytes,str_bytes,List.append_nil]
    have e : (esc (⟨#[98]⟩ : ByteArray).data.toList) = [98]:=rfl
    rw [e]; simp [xLo]
  have hk : keyL [str ⟨#[98]⟩,str ex] [] = (e0,5):=by rw [keyL_nil,e,if_neg hl]
  unfold underK
  rw [hk,if_pos (by simp)]
theorem xLo_name {ex : ByteArray} (h : nameB ex = true) : (xLo ex).length≤255:=by
  have:=(nameB_size h).1
  have:=esc_le ex
  unfold xLo
  simp only [Zai,Zby,Zaj]; omega
theorem bind_head (b : Bi) : keyB (bindP b) = 2 :: (esc b.ex.data.toList ++ 0 :: 0 :: keyB [num' (kindN b.kind),str b.key,str b.q]):=by
  show (str b.ex).bytes ++ keyB [num' (kindN b.kind),str b.key,str b.q] = _
  rw [str_bytes]; simp
theorem in_x (ex : ByteArray) (b : Bi) (v : List UInt8) : inR (xLo ex) (xHi ex) (bkey b,v) = decide (b.ex = ex):=by
  have h1 : bkey b < xLo ex ↔ (b.ex.data.toList < ex.data.toList):=by
    unfold xLo
    rw [bkey_eq,cons_lt_same,cons_lt_same,cons_lt_same,cons_lt_same,bind_head,cons_lt_same,show esc ex.data.toList ++ [0,0] = esc ex.data.toList ++ 0 :: 0 :: [] from rfl,esc_lt]
    simp [List.not_lt_nil]
  have h2 : bkey b < xHi ex ↔ (b.ex.data.toList < ex.data.toList∨b.ex.data.toList = ex.data.toList):=by
    unfold xHi
    rw [bkey_eq,cons_lt_same,cons_lt_same,cons_lt_same,cons_lt_same,bind_head,cons_lt_same,esc_lt_end]
  have hne : xHi ex≠[]:=by unfold xHi; simp
  have h3 : inR (xLo ex) (xHi ex) (bkey b,v) = true ↔ b.ex = ex:=by
    rw [inR_iff]
    simp only [h1,h2,hne,false_or]
    constructor
    · rintro ⟨h,h' | h'⟩
      · exact (h h').elim
      · exact q_ext h'
    · rintro rfl
      exact ⟨lt_irrefl' _,.inr rfl⟩
  by_cases hx : b.ex = ex
  · rw [decide_eq_true hx]; exact h3.2 hx
  · rw [decide_eq_false hx,← Bool.not_eq_true,h3]; exact hx
theorem out_xc (ex q : ByteArray) (v : List UInt8) : inR (xLo ex) (xHi ex) (ckey q,v) = false:=by
  rw [← Bool.not_eq_true,inR_iff,ckey_eq]
  intro h
  rcases h.2 with h | h
  · unfold xHi at h; cases h
  · revert h
    unfold xHi
    simp only [Zcd,nat_lt8]; simp
theorem out_xq (ex q : ByteArray) (v : List UInt8) : inR (xLo ex) (xHi ex) (qkey q,v) = false:=by
  rw [← Bool.not_eq_true,inR_iff,qkey_eq]
  intro h
  rcases h.2 with h | h
  · unfold xHi at h; cases h
  · revert h
    unfold xHi
    simp only [Zcd,nat_lt8]; simp
theorem under_b2 : underK ⟨#[98]⟩ [] = (⟨#[2,98,0,0]⟩,⟨#[2,98,0,1]⟩):=by decide
theorem rng_b {B : Bk} {m : M} (h : Rg B m) : ∃ D : List Bi,rngM [2,98,0,0] [2,98,0,1] m = D.map bP∧(∀ q,q ∈ D ↔ q ∈ B.bs)∧D.Nodup:=by
  refine row_things bP B.bs ?_ _ (List.Pairwise.filter _ h.so) ?_
  · intro a ha b hb e
    exact bkey_inj (h.bn a ha).2.2.2.2 (h.bn a ha).inI (h.bn b hb).inI (congrArg Prod.fst e)
  · intro p
    unfold rngM
    rw [List.mem_filter,h.mem]
    constructor
    · rintro ⟨⟨q,hq,rfl⟩ | ⟨b,hb,rfl⟩ | ⟨c,hc,rfl⟩,hin⟩
      · rw [qP,out_bq] at hin; cases hin
      · exact ⟨b,hb,rfl⟩
      · rw [cP,out_bc] at hin; cases hin
    · rintro ⟨q,hq,rfl⟩
      exact ⟨.inr (.inl ⟨q,hq,rfl⟩),in_b _ _⟩
def exL (ex : ByteArray) (l : List Bi) : List Bi:=l.filter fun b=>decide (b.ex = ex)
theorem mem_exL {ex : ByteArray} {l : List Bi} {b : Bi} : b ∈ exL ex l ↔ b ∈ l∧b.ex = ex:=by unfold exL; rw [List.mem_filter]; simp
theorem rng_x {B : Bk} {m : M} (h : Rg B m) (ex : ByteArray) : ∃ D : List Bi,rngM (xLo ex) (xHi ex) m = D.map bP∧(∀ q,q ∈ D ↔ q ∈ exL ex B.bs)∧D.Nodup:=by
  refine row_things bP (exL ex B.bs) ?_ _ (List.Pairwise.filter _ h.so) ?_
  · intro a ha b hb e
    exact bkey_inj (h.bn a (mem_exL.1 ha).1).2.2.2.2 (h.bn a (mem_exL.1 ha).1).inI (h.bn b (mem_exL.1 hb).1).inI (congrArg Prod.fst e)
  · intro p
    unfold rngM
    rw [List.mem_filter,h.mem]
    constructor
    · rintro ⟨⟨q,hq,rfl⟩ | ⟨b,hb,rfl⟩ | ⟨c,hc,rfl⟩,hin⟩
      · rw [qP,out_xq] at hin; cases hin
      · rw [bP,in_x] at hin
        exact ⟨b,mem_exL.2 ⟨hb,of_decide_eq_true hin⟩,rfl⟩
      · rw [cP,out_xc] at hin; cases hin
    · rintro ⟨q,hq,rfl⟩
      obtain ⟨h1,h2⟩:=mem_exL.1 hq
      refine ⟨.inr (.inl ⟨q,h1,rfl⟩), ?_⟩
      rw [bP,in_x]; exact decide_eq_true h2
theorem bgot_bP (b : Bi) (hb : b.right) : bgot (bP b,0) = (b,0):=by
  have:=parse_bkey b hb.2.2.2.2 ⟨by have:=hb.2.2.1; omega,by have:=hb.2.2.2.1; omega⟩
  unfold bgot bP
  rw [if_neg (by simp),if_neg (by simpa using this.1)]
  simp only [this.2]
theorem thingsB_map : ∀ (D : List Bi),(∀ x ∈ D,x.right)→thingsB (okRows (D.map bP)) = D.map fun y=>(y,(0 : Int)):=by
  intro D
  induction D with
  | nil=>intro _; rfl
  | cons x D ih =>
    intro h
    have hg:=bgot_bP x (h x (by simp))
    show thingsB ((bP x,0) :: okRows (D.map bP)) = _
    unfold thingsB
    rw [hg,if_neg (by simp),ih (fun y hy=>h y (by simp [hy]))]
    rfl
theorem bindings_shelf (sb mb : Nat) (h0 : 0≠mb) (c : Nat) {B : Bk} {m : M} (h : Rg B m) (ex : ByteArray) :
    ∃ D : List Bi,thingsB ((shelf sb mb h0).under (c,m) ⟨#[98]⟩ [str ex]) = D.map (fun y=>(y,(0 : Int)))∧(∀ q,q ∈ D ↔ q ∈ exL ex B.bs)∧D.Nodup:=by
  by_cases hx : (xLo ex).length≤255
  · obtain ⟨D,h1,h2,h3⟩:=rng_x h ex
    refine ⟨D, ?_,h2,h3⟩
    have e : (shelf sb mb h0).under (c,m) ⟨#[98]⟩ [str ex] = okRows (D.map bP):=by
      unfold Sto.under
      rw [under_x ex hx,if_neg (by simp [ByteArray.toList_eq,xLo])]
      show okRows (rngM (xLo ex) (xHi ex) m) = _
      rw [h1]
    rw [e]
    exact thingsB_map D (fun x hx=>h.bn x (mem_exL.1 ((h2 x).1 hx)).1)
  · refine ⟨[], ?_,fun q=>⟨fun hq=>(List.not_mem_nil hq).elim,fun hq => ?_⟩,List.nodup_nil⟩
    · unfold Sto.under
      rw [under_x_none ex hx,if_pos (by simp [ByteArray.toList_eq,e0])]
      rfl
    · obtain ⟨h1,rfl⟩:=mem_exL.1 hq
      exact (hx (xLo_name (h.bn q h1).1)).elim
theorem allB_shelf (sb mb : Nat) (h0 : 0≠mb) (c : Nat) {B : Bk} {m : M} (h : Rg B m) :
    ∃ D : List Bi,thingsB ((shelf sb mb h0).under (c,m) ⟨#[98]⟩ []) = D.map (fun y=>(y,(0 : Int)))∧(∀ q,q ∈ D ↔ q ∈ B.bs)∧D.Nodup:=by
  obtain ⟨D,h1,h2,h3⟩:=rng_b h
  refine ⟨D, ?_,h2,h3⟩
  have e : (shelf sb mb h0).under (c,m) ⟨#[98]⟩ [] = okRows (D.map bP):=by
    unfold Sto.under
    rw [under_b2,if_neg (by simp [ByteArray.toList_eq])]
    show okRows (rngM [2,98,0,0] [2,98,0,1] m) = _
    rw [h1]
  rw [e]
  exact thingsB_map D (fun x hx=>h.bn x ((h2 x).1 hx))
end Go.Oct
namespace Go.Oct
open Go Go.Vc Go.VrA Go.VrF
set_option maxRecDepth 100000
theorem name_dead {q : Qu} (h1 : ¬ (nameB q.name = false∨(emptyB q.dead = false∧nameB q.dead = false))) : nameB q.name = true∧q.dead.size≤32:=by
  constructor
  · cases h : nameB q.name with
    | true=>rfl
    | false=>exact (h1 (.inl h)).elim
  · cases h : emptyB q.dead with
    | true =>
      rw [emptyB_eq] at h
      rw [of_decide_eq_true h]; decide
    | false =>
      cases h' : nameB q.dead with
      | true=>exact (nameB_size h').1
      | false=>exact (h1 (.inr ⟨h,h'⟩)).elim
theorem declare_shelf2 (sb mb : Nat) (h0 : 0≠mb) (c : Nat) {B : Bk} {m : M} (h : Rg B m) (q : Qu) (hq : q.most < 2 ^ 32∧q.ttl < 2 ^ 64∧q.tries < 2 ^ 32) :
    ∃ c' m',(shelf sb mb h0).declare (c,m) q = ((B.declare q).1,(c',m'))∧c'≤c + 1∧m'.length≤m.length + 1∧Rg (B.declare q).2 m':=by
  have triv : ∀ e : Int,∃ c' m',((e,(c,m)) : Int × (Nat × M)) = ((e,B).1,(c',m'))∧c'≤c + 1∧m'.length≤m.length + 1∧Rg (e,B).2 m':=fun e=>⟨c,m,rfl,by omega,by omega,h⟩
  unfold Sto.declare Bk.declare
  by_cases h1 : nameB q.name = false∨(emptyB q.dead = false∧nameB q.dead = false)
  · rw [if_pos h1,if_pos h1]; exact triv 23
  rw [if_neg h1,if_neg h1]
  by_cases h2 : (q.dead.toList == q.name.toList) = true
  · rw [if_pos h2,if_pos h2]; exact triv 2
  rw [if_neg h2,if_neg h2]
  by_cases h3 : q.ttl > 1099511627776
  · rw [if_pos h3,if_pos h3]; exact triv 29
  rw [if_neg h3,if_neg h3]
  simp only [find_shelf2 sb mb h0 c h]
  have f2:=getQ_2 q.name B.qs
  by_cases h4 : 0≤bfind q.name B.qs 0
  · rw [if_pos h4] at f2
    rw [if_pos f2,if_pos h4]; exact triv 22
  rw [if_neg h4] at f2
  rw [if_neg (by rw [f2]; decide),if_neg (by rw [f2]; decide),if_neg h4]
  obtain ⟨hn,hd⟩:=name_dead h1
  have hno : ∀ x ∈ B.qs,x.name≠q.name:=fun x hx e=>h4 ((bfind_iff _ _ _).2 ⟨x,hx,e⟩)
  have hf : q.fine:=⟨hq.1,hq.2.1,hq.2.2,hd⟩
  have hput : (shelf sb mb h0).put (c,m) (queueK q.name).1 (qbytes q) = (0,(c + 1,putM (qkey q.name) (qbytes q).data.toList m)):=by
    rw [queueK_if,if_pos (qkey_name hn)]
    exact shelf_put sb mb h0 c m _ _ (qkey_name hn) (by have:=qbytes_size q hf; omega)
  have good : ∃ c' m',(shelf sb mb h0).put (c,m) (queueK q.name).1 (qbytes q) = (((0 : Int),({ B with qs:=B.qs ++ [q] } : Bk)).1,(c',m'))∧c'≤c + 1∧m'.length≤m.length + 1∧Rg ((0 : Int),({ B with qs:=B.qs ++ [q] } : Bk)).2 m' :=
    ⟨_,_,hput,by omega,put_length _ _ _,h.put_q hn hf hno⟩
  cases hE : emptyB q.dead with
  | true =>
    simp only [Zac]
    rw [if_neg (by simp),if_neg (by simp)]
    exact good
  | false =>
    simp only [Bool.false_eq_true,Zag]
    have g2:=getQ_2 q.dead B.qs
    by_cases h5 : 0≤bfind q.dead B.qs 0
    · rw [if_pos h5] at g2
      rw [if_neg (by rw [g2]; simp),if_neg (by omega)]
      exact good
    · rw [if_neg h5] at g2
      rw [if_pos (by rw [g2]; decide),if_pos ⟨trivial,by omega⟩,g2]
      exact triv 21
theorem unbL_eq (x : Bi) (l : List Bi) : unbL x l = l.filter fun y=>decide (y≠x):=by
  unfold unbL
  refine List.filter_congr fun y _ => ?_
  rw [eqBi_eq]
  by_cases e : y = x <;> simp [e]
theorem filter_len_lt {α : Type} {p : α→Bool} {l : List α} {x : α} (hx : x ∈ l) (hp : p x = false) : (l.filter p).length≠l.length:=by
  intro e
  have:=List.filter_eq_self.1 ((List.filter_sublist (l:=l) (p:=p)).eq_of_length e) x hx
  rw [hp] at this; cases this
theorem del_length (k : List UInt8) (m : M) : (delM k m).length≤m.length:=List.length_filter_le _ _
theorem unbind_shelf (sb mb : Nat) (h0 : 0≠mb) (c : Nat) {B : Bk} {m : M} (h : Rg B m) (x : Bi) (hx : x.inI) :
    ∃ c' m',(shelfC sb mb h0).unbind (c,m) x = ((B.unbind x).1,(c',m'))∧c'≤c + 1∧m'.length≤m.length + 1∧Rg (B.unbind x).2 m':=by
  unfold StoC.unbind Bk.unbind
  rw [bindK_if]
  have absent : x ∉ B.bs→(unbL x B.bs).length = B.bs.length:=by
    intro hno
    rw [unbL_eq,List.filter_eq_self.2]
    intro y hy
    simp only [ne_eq,decide_eq_true_eq]
    rintro rfl
    exact hno hy
  by_cases hl : (bkey x).length≤255
  · rw [if_pos hl]
    simp only []
    rw [if_neg (by simp),shelf_cut]
    by_cases hin : x ∈ B.bs
    · rw [h.look_b hin]
      have hne : (unbL x B.bs).length≠B.bs.length:=by
        rw [unbL_eq]
        exact filter_len_lt hin (by simp)
      rw [if_neg hne]
      refine ⟨c,delM (bkey x) m,by simp,by omega,by have:=del_length (bkey x) m; omega, ?_⟩
      have hc:=h.cut (m':=delM (bkey x) m) (fun _=>true) (fun y=>decide (y≠x)) (sorted_del h.so) ?_
      · have e : B.qs.filter (fun _=>true) = B.qs:=List.filter_eq_self.2 (fun _ _=>rfl)
        rw [e,← unbL_eq] at hc
        exact hc
      · intro p
        rw [mem_del]
        constructor
        · rintro ⟨h1,h2⟩
          refine ⟨h1,fun q _ hq=>by simp at hq,fun b _ hb => ?_⟩
          have : b = x:=by simpa using hb
          rw [this]; exact h2
        · rintro ⟨h1,_,h3⟩
          exact ⟨h1,h3 x hin (by simp)⟩
    · rw [h.look_b_none hl hx hin,if_pos (absent hin),if_pos (by simp)]
      refine ⟨c,delM (bkey x) m,rfl,by omega,by have:=del_length (bkey x) m; omega, ?_⟩
      have e : delM (bkey x) m = m:=by
        unfold delM
        refine List.filter_eq_self.2 ?_
        intro p hp
        simp only [Bool.not_eq_true',beq_eq_false_iff_ne,ne_eq]
        intro e
        have:=look_mem h.so hp
        rw [e,h.look_b_none hl hx hin] at this
        cases this
      rw [e]; exact h
  · rw [if_neg hl,if_pos (by simp),if_pos]
    · exact ⟨c,m,rfl,by omega,by omega,h⟩
    · refine absent fun hin=>hl (h.bn x hin).2.2.2.2
def Bk.bind (B : Bk) (x : Bi) : Int × Bk :=
  if nameB x.ex = false∨nameB x.q = false then (23,B) else
  if x.kind < 1∨3 < x.kind then (11,B) else
  if rightB x.kind x.key = false then (24,B) else
  if bfind x.q B.qs 0 < 0 then (21,B) else
  if (B.bs.any fun y=>(y.ex.toList == x.ex.toList) && (y.kind != x.kind)) = true then (11,B) else
  if (bindK x).2≠0 then ((bindK x).2,B) else
  if (B.bs.any fun y=>eqBi x y) = true then (22,B) else (0,{ B with bs:=B.bs ++ [x] })
theorem mixE_map (k : Int) : ∀ D : List Bi,mixE k (D.map fun y=>(y,(0 : Int))) = if (D.any fun y=>decide (y.kind≠k)) = true then 11 else 0:=by
  intro D
  induction D with
  | nil=>rfl
  | cons x D ih =>
    rw [List.map_cons,mixE,List.any_cons,if_neg (by simp),ih]
    by_cases hx : x.kind = k
    · simp [hx]
    · simp [hx]
theorem bind_shelf (sb mb : Nat) (h0 : 0≠mb) (c : Nat) {B : Bk} {m : M} (h : Rg B m) (x : Bi) (hx : x.inI) :
    ∃ c' m',(shelf sb mb h0).bindR (c,m) x = ((B.bind x).1,(c',m'))∧c'≤c + 1∧m'.length≤m.length + 1∧Rg (B.bind x).2 m':=by
  have triv : ∀ e : Int,∃ c' m',((e,(c,m)) : Int × (Nat × M)) = ((e,B).1,(c',m'))∧c'≤c + 1∧m'.length≤m.length + 1∧Rg (e,B).2 m':=fun e=>⟨c,m,rfl,by omega,by omega,h⟩
  unfold Sto.bindR Bk.bind
  by_cases h1 : nameB x.ex = false∨nameB x.q = false
  · rw [if_pos h1,if_pos h1]; exact triv 23
  rw [if_neg h1,if_neg h1]
  by_cases h2 : x.kind < 1∨3 < x.kind
  · rw [if_pos h2,if_pos h2]; exact triv 11
  rw [if_neg h2,if_neg h2]
  by_cases h3 : rightB x.kind x.key = false
  · rw [if_pos h3,if_pos h3]; exact triv 24
  rw [if_neg h3,if_neg h3,find_shelf2 sb mb h0 c h]
  have f2:=getQ_2 x.q B.qs
  simp only []
  by_cases h4 : bfind x.q B.qs 0 < 0
  · rw [if_neg (by omega)] at f2
    rw [if_pos (by rw [f2]; decide),if_pos h4,f2]; exact triv 21
  rw [if_pos (by omega)] at f2
  rw [if_neg (by rw [f2]; decide),if_neg h4]
  have hne : nameB x.ex = true∧nameB x.q = true:=by
    constructor
    · cases e : nameB x.ex with
      | true=>rfl
      | false=>exact (h1 (.inl e)).elim
    · cases e : nameB x.q with
      | true=>rfl
      | false=>exact (h1 (.inr e)).elim
  obtain ⟨D,d1,d2,d3⟩:=bindings_shelf sb mb h0 c h x.ex
  have hmx : (shelf sb mb h0).mixed (c,m) x = if (D.any fun y=>decide (y.kind≠x.kind)) = true then 11 else 0:=by
    unfold Sto.mixed
    rw [d1,mixE_map]
  have hany : (D.any fun y=>decide (y.kind≠x.kind)) = (B.bs.any fun y=>(y.ex.toList == x.ex.toList) && (y.kind != x.kind)):=by
    rw [Bool.eq_iff_iff,List.any_eq_true,List.any_eq_true]
    constructor
    · rintro ⟨y,hy,hk⟩
      obtain ⟨e1,e2⟩:=mem_exL.1 ((d2 y).1 hy)
      refine ⟨y,e1, ?_⟩
      rw [tl_eq,decide_eq_true e2]
      simpa using hk
    · rintro ⟨y,hy,hk⟩
      rw [tl_eq,Bool.and_eq_true] at hk
      exact ⟨y,(d2 y).2 (mem_exL.2 ⟨hy,of_decide_eq_true hk.1⟩),by simpa using hk.2⟩
  rw [hmx,hany]
  by_cases h5 : (B.bs.any fun y=>(y.ex.toList == x.ex.toList) && (y.kind != x.kind)) = true
  · rw [if_pos h5,if_pos (by decide),if_pos h5]; exact triv 11
  rw [if_neg h5,if_neg (by decide),if_neg h5,bindK_if]
  by_cases hl : (bkey x).length≤255
  · simp only [hl,Zac,shelf_get,ne_eq,not_true_eq_false,Zag]
    have hthere : (B.bs.any fun y=>eqBi x y) = true ↔ x ∈ B.bs:=by
      rw [List.any_eq_true]
      constructor
      · rintro ⟨y,hy,e⟩
        rw [eqBi_eq] at e
        rw [of_decide_eq_true e]; exact hy
      · exact fun hy=>⟨x,hy,by rw [eqBi_eq]; simp⟩
    by_cases hin : x ∈ B.bs
    · simp only [h.look_b hin,Option.isSome_some,Zac]
      rw [if_pos (hthere.2 hin)]; exact triv 22
    · simp only [h.look_b_none hl hx hin,Option.isSome_none,Bool.false_eq_true,Zag]
      rw [if_neg (fun e=>hin (hthere.1 e))]
      have hr : x.right:=⟨hne.1,hne.2,by omega,by omega,hl⟩
      have hput : (shelf sb mb h0).put (c,m) ⟨(bkey x).toArray⟩ e0 = (0,(c + 1,putM (bkey x) e0.data.toList m)):=shelf_put sb mb h0 c m _ _ hl (by decide)
      rw [hput]
      refine ⟨_,_,rfl,by omega,put_length _ _ _,h.put_b hr hin ?_⟩
      intro a ha e
      by_cases hk : a.kind = x.kind
      · exact hk
      · refine (h5 ?_).elim
        rw [List.any_eq_true]
        refine ⟨a,ha, ?_⟩
        rw [tl_eq,decide_eq_true e]
        simpa using hk
  · rw [if_neg hl,if_pos (by simp),if_pos (by simp)]; exact triv 5
theorem cutsL_shelf (sb mb : Nat) (h0 : 0≠mb) (c : Nat) : ∀ (Q : List (List UInt8)) (m : M),SortedM m →
    ∃ m',(shelfC sb mb h0).cuts (c,m) Q = (0,(c,m'))∧SortedM m'∧m'.length≤m.length∧∀ p,p ∈ m' ↔ p ∈ m∧p.1 ∉ Q:=by
  intro Q
  induction Q with
  | nil=>intro m h; exact ⟨m,rfl,h,by omega,by simp⟩
  | cons k Q ih =>
    intro m h
    obtain ⟨m',e,h1,h2,h3⟩:=ih (delM k m) (sorted_del h)
    refine ⟨m', ?_,h1,by have:=del_length k m; omega, ?_⟩
    · rw [cuts_cons,shelf_cut,if_neg (by simp)]
      exact e
    · intro p
      rw [h3,mem_del,List.mem_cons]
      constructor
      · rintro ⟨⟨a,b⟩,d⟩
        exact ⟨a,fun x=>x.elim b d⟩
      · rintro ⟨a,b⟩
        exact ⟨⟨a,fun x=>b (.inl x)⟩,fun x=>b (.inr x)⟩
theorem bErr_map : ∀ D : List Bi,bErr (D.map fun y=>(y,(0 : Int))) = 0:=by
  intro D
  induction D with
  | nil=>rfl
  | cons x D ih=>rw [List.map_cons,bErr,if_neg (by simp)]; exact ih
theorem mem_gone (name : ByteArray) (k : List UInt8) : ∀ D : List Bi,(∀ x ∈ D,x.right)→(k ∈ goneL name (D.map fun y=>(y,(0 : Int))) ↔ ∃ b ∈ D,b.q = name∧k = bkey b):=by
  intro D
  induction D with
  | nil=>intro _; simp [goneL]
  | cons x D ih =>
    intro h
    have ih':=ih (fun y hy=>h y (by simp [hy]))
    rw [List.map_cons,goneL]
    have hk : (bindK x).1.data.toList = bkey x:=by
      rw [bindK_if,if_pos (h x (by simp)).2.2.2.2]
    by_cases hq : x.q = name
    · rw [if_pos (by rw [tl_eq]; exact decide_eq_true hq),List.mem_cons,ih',hk]
      constructor
      · rintro (e | ⟨b,hb,e⟩)
        · exact ⟨x,by simp,hq,e⟩
        · exact ⟨b,by simp [hb],e⟩
      · rintro ⟨b,hb,e1,e2⟩
        rcases List.mem_cons.1 hb with rfl | hb
        · exact .inl e2
        · exact .inr ⟨b,hb,e1,e2⟩
    · rw [if_neg (by rw [tl_eq]; simpa using hq),ih']
      constructor
      · rintro ⟨b,hb,e⟩
        exact ⟨b,by simp [hb],e⟩
      · rintro ⟨b,hb,e1,e2⟩
        rcases List.mem_cons.1 hb with rfl | hb
        · exact (hq e1).elim
        · exact ⟨b,hb,e1,e2⟩
theorem keepQ_eq (name : ByteArray) (l : List Qu) : keepQ name l = l.filter fun q=>decide (q.name≠name):=by
  unfold keepQ
  refine List.filter_congr fun y _ => ?_
  rw [tl_eq]
  by_cases e : y.name = name <;> simp [e]
theorem keepB_eq (name : ByteArray) (l : List Bi) : keepB name l = l.filter fun q=>decide (q.q≠name):=by
  unfold keepB
  refine List.filter_congr fun y _ => ?_
  rw [tl_eq]
  by_cases e : y.q = name <;> simp [e]
theorem drop_shelf (sb mb : Nat) (h0 : 0≠mb) (c : Nat) {B : Bk} {m : M} (h : Rg B m) (name : ByteArray) :
    ∃ c' m',(shelfC sb mb h0).drop (c,m) name = ((B.drop name).1,(c',m'))∧c'≤c + 1∧m'.length≤m.length + 1∧Rg (B.drop name).2 m':=by
  unfold StoC.drop Bk.drop
  have hf : (shelfC sb mb h0).toSto.find (c,m) name = (getQ name B.qs,(c,m)):=find_shelf2 sb mb h0 c h name
  rw [hf]
  have f2:=getQ_2 name B.qs
  simp only []
  by_cases h4 : bfind name B.qs 0 < 0
  · rw [if_neg (by omega)] at f2
    rw [if_pos (by rw [f2]; decide),if_pos h4,f2]
    exact ⟨c,m,rfl,by omega,by omega,h⟩
  rw [if_pos (by omega)] at f2
  rw [if_neg (by rw [f2]; decide),if_neg h4]
  obtain ⟨D,d1,d2,d3⟩:=allB_shelf sb mb h0 c h
  have d1' : thingsB ((shelfC sb mb h0).toSto.under (c,m) ⟨#[98]⟩ []) = D.map fun y=>(y,(0 : Int)):=d1
  rw [d1']
  unfold StoC.dropAt
  rw [bErr_map,if_neg (by simp)]
  obtain ⟨q,hq,hqn⟩:=(bfind_iff name B.qs 0).1 (by omega)
  have hqk : (queueK name).1.data.toList = qkey name:=by
    have:=qkey_name (h.qn q hq).1
    rw [hqn] at this
    rw [queueK_if,if_pos this]
  rw [hqk]
  obtain ⟨m',e,s1,s2,s3⟩:=cutsL_shelf sb mb h0 c (goneL name (D.map fun y=>(y,(0 : Int))) ++ [qkey name]) m h.so
  rw [e]
  refine ⟨c,m',rfl,by omega,by omega, ?_⟩
  rw [keepQ_eq,keepB_eq]
  refine h.cut (fun q=>decide (q.name≠name)) (fun b=>decide (b.q≠name)) s1 ?_
  intro p
  rw [s3,List.mem_append,List.mem_singleton,mem_gone name p.1 D (fun x hx=>h.bn x ((d2 x).1 hx))]
  constructor
  · rintro ⟨a,b⟩
    refine ⟨a,fun x hx hd e=>b (.inr ?_),fun x hx hd e=>b (.inl ⟨x,(d2 x).2 hx,by simpa using hd,e⟩)⟩
    have hn : x.name = name:=by simpa using hd
    rw [e,hn]
  · rintro ⟨a,b,d⟩
    refine ⟨a, ?_⟩
    rintro (⟨x,hx,e1,e2⟩ | e1)
    · exact d x ((d2 x).1 hx) (by simpa using e1) e2
    · exact b q hq (by simpa using hqn) (by rw [e1,hqn])
def nOf (name : ByteArray) (l : List Ct) : Nat:=l.foldl (fun n c=>if (c.name.toList == name.toList) = true then c.n else n) 0
def Bk.next (B : Bk) (name : ByteArray) : (Nat × Int) × Bk :=
  if (counterK name).2≠0 then ((0,(counterK name).2),B) else
  if nOf name B.cs = 18446744073709551615 then ((0,8),B) else ((nOf name B.cs + 1,0),{ B with cs:=otherC name B.cs ++ [⟨name,nOf name B.cs + 1⟩] })
theorem nOf_go (name : ByteArray) : ∀ (l : List Ct) (a : Nat),(∀ c ∈ l,c.name≠name)→l.foldl (fun n c=>if (c.name.toList == name.toList) = true then c.n else n) a = a:=by
  intro l
  induction l with
  | nil=>intro a _; rfl
  | cons x l ih =>
    intro a h
    rw [List.foldl_cons,if_neg (by rw [tl_eq]; simpa using h x (by simp))]
    exact ih a (fun c hc=>h c (by simp [hc]))
theorem nOf_in (name : ByteArray) : ∀ (l : List Ct) (a : Nat),(l.Pairwise fun a b=>a.name≠b.name)→∀ c ∈ l,c.name = name→l.foldl (fun n c=>if (c.name.toList == name.toList) = true then c.n else n) a = c.n:=by
  intro l
  induction l with
  | nil=>intro a _ c hc; cases hc
  | cons x l ih =>
    intro a h c hc hn
    have h':=List.pairwise_cons.1 h
    rw [List.foldl_cons]
    rcases List.mem_cons.1 hc with rfl | hc
    · rw [if_pos (by rw [tl_eq]; exact decide_eq_true hn)]
      refine nOf_go name l _ (fun y hy e=>h'.1 y hy ?_)
      rw [hn,e]
    · exact ih _ h'.2 c hc hn
theorem next_shelf (sb mb : Nat) (h0 : 0≠mb) (c : Nat) {B : Bk} {m : M} (h : Rg B m) (name : ByteArray) :
    ∃ c' m',(shelf sb mb h0).next (c,m) name = ((B.next name).1,(c',m'))∧c'≤c + 1∧m'.length≤m.length + 1∧Rg (B.next name).2 m':=by
  unfold Sto.next Bk.next
  rw [counterK_if]
  by_cases hl : (ckey name).length≤255
  · simp only [hl,Zac,shelf_get,ne_eq,not_true_eq_false,Zag]
    have hput : ∀ n,(shelf sb mb h0).put (c,m) ⟨(ckey name).toArray⟩ (cbytes n) = (0,(c + 1,putM (ckey name) (cbytes n).data.toList m)):=fun n=>shelf_put sb mb h0 c m _ _ hl (by rw [cbytes_size]; decide)
    by_cases hin : ∃ x ∈ B.cs,x.name = name
    · obtain ⟨x,hx,hn⟩:=hin
      have hlk:=h.look_c hx
      rw [hn] at hlk
      have e : nOf name B.cs = x.n:=nOf_in name B.cs 0 h.cd x hx hn
      have hxn:=(h.cn x hx).2
      simp only [hlk,e,Option.isSome_some,Zac,Zab,cread_cbytes x.n hxn,not_true_eq_false,Zag]
      by_cases hm : x.n = 18446744073709551615
      · rw [if_pos hm,if_pos hm]
        exact ⟨c,m,rfl,by omega,by omega,h⟩
      · simp only [hm,Zag,hput,not_true_eq_false]
        exact ⟨c + 1,_,rfl,by omega,put_length _ _ _,h.put_c (c:=⟨name,x.n + 1⟩) hl (by show x.n + 1 < 2 ^ 64; omega)⟩
    · have e : nOf name B.cs = 0:=nOf_go name B.cs 0 (fun x hx e=>hin ⟨x,hx,e⟩)
      simp only [h.look_c_none hl (fun x hx e=>hin ⟨x,hx,e⟩),e,Option.isSome_none,Bool.false_eq_true,Zag,not_true_eq_false,hput]
      rw [if_neg (by simp),if_neg (by simp)]
      exact ⟨c + 1,_,rfl,by omega,put_length _ _ _,h.put_c (c:=⟨name,0 + 1⟩) hl (by show 0 + 1 < 2 ^ 64; omega)⟩
  · rw [if_neg hl,if_pos (by simp),if_pos (by simp)]
    exact ⟨c,m,rfl,by omega,by omega,h⟩
def fitL (ex key : ByteArray) (l : List Bi) : List (List UInt8)→List (List UInt8) :=
  fun P=>l.foldl (fun P b=>if (b.ex.toList == ex.toList) = true∧fitsB b.kind b.key key = true then wgo b.q.data.toList false P else P) P
def Bk.route (B : Bk) (ex key : ByteArray) : List (List UInt8) × Int :=
  if emptyB ex = true then (if bfind key B.qs 0 < 0 then ([],21) else ([key.data.toList],0)) else
  if nameB ex = false then ([],23) else if keyW key = false then ([],4) else
  if (B.bs.filter fun b=>b.ex.toList == ex.toList).length = 0 then ([],21) else (fitL ex key B.bs [],0)
theorem fitL_mem (ex key : ByteArray) : ∀ (l : List Bi) (P : List (List UInt8)),Rise P→Rise (fitL ex key l P)∧∀ y,y ∈ fitL ex key l P ↔ y ∈ P∨∃ b ∈ l,b.ex = ex∧fitsB b.kind b.key key = true∧y = b.q.data.toList:=by
  intro l
  induction l with
  | nil=>intro P h; exact ⟨h,by simp [fitL]⟩
  | cons x l ih =>
    intro P h
    unfold fitL
    rw [List.foldl_cons]
    by_cases hc : (x.ex.toList == ex.toList) = true∧fitsB x.kind x.key key = true
    · rw [if_pos hc,wgo_rise _ _ h]
      obtain ⟨i1,i2⟩:=ih (insL x.q.data.toList P) (insL_rise h)
      refine ⟨i1,fun y => ?_⟩
      have hx : x.ex = ex:=by have:=hc.1; rw [tl_eq] at this; exact of_decide_eq_true this
      rw [show (l.foldl (fun P b=>if (b.ex.toList == ex.toList) = true∧fitsB b.kind b.key key = true then wgo b.q.data.toList false P else P) (insL x.q.data.toList P)) = fitL ex key l (insL x.q.data.toList P) from rfl,i2,insL_mem]
      constructor
      · rintro ((e | e) | ⟨b,hb,e⟩)
        · exact .inr ⟨x,by simp,hx,hc.2,e⟩
        · exact .inl e
        · exact .inr ⟨b,by simp [hb],e⟩
      · rintro (e | ⟨b,hb,e⟩)
        · exact .inl (.inr e)
        · rcases List.mem_cons.1 hb with rfl | hb
          · exact .inl (.inl e.2.2)
          · exact .inr ⟨b,hb,e⟩
    · rw [if_neg hc]
      obtain ⟨i1,i2⟩:=ih P h
      refine ⟨i1,fun y => ?_⟩
      rw [show (l.foldl (fun P b=>if (b.ex.toList == ex.toList) = true∧fitsB b.kind b.key key = true then wgo b.q.data.toList false P else P) P) = fitL ex key l P from rfl,i2]
      constructor
      · rintro (e | ⟨b,hb,e⟩)
        · exact .inl e
        · exact .inr ⟨b,by simp [hb],e⟩
      · rintro (e | ⟨b,hb,e1,e2,e3⟩)
        · exact .inl e
        · rcases List.mem_cons.1 hb with rfl | hb
          · exact (hc ⟨by rw [tl_eq]; exact decide_eq_true e1,e2⟩).elim
          · exact .inr ⟨b,hb,e1,e2,e3⟩
theorem routeL_map (key : ByteArray) : ∀ (D : List Bi) (P : List (List UInt8)) (n : Nat),routeL key P n (D.map fun y=>(y,(0 : Int))) =
    if n + D.length = 0 then ([],21) else (D.foldl (fun P b=>if fitsB b.kind b.key key then insL b.q.data.toList P else P) P,0):=by
  intro D
  induction D with
  | nil=>intro P n; rfl
  | cons x D ih =>
    intro P n
    have e1 : ¬ (n + 1 + D.length = 0):=by omega
    have e2 : ¬ (n + (x :: D).length = 0):=by rw [List.length_cons]; omega
    rw [List.map_cons,routeL,if_neg (by simp),ih,if_neg e1,if_neg e2]
    rfl
theorem ins_fold_mem (key : ByteArray) : ∀ (D : List Bi) (P : List (List UInt8)),Rise P→Rise (D.foldl (fun P b=>if fitsB b.kind b.key key then insL b.q.data.toList P else P) P) ∧
    ∀ y,y ∈ D.foldl (fun P b=>if fitsB b.kind b.key key then insL b.q.data.toList P else P) P ↔ y ∈ P∨∃ b ∈ D,fitsB b.kind b.key key = true∧y = b.q.data.toList:=by
  intro D
  induction D with
  | nil=>intro P h; exact ⟨h,by simp⟩
  | cons x D ih =>
    intro P h
    rw [List.foldl_cons]
    by_cases hc : fitsB x.kind x.key key = true
    · rw [if_pos hc]
      obtain ⟨i1,i2⟩:=ih (insL x.q.data.toList P) (insL_rise h)
      refine ⟨i1,fun y => ?_⟩
      rw [i2,insL_mem]
      constructor
      · rintro ((e | e) | ⟨b,hb,e⟩)
        · exact .inr ⟨x,by simp,hc,e⟩
        · exact .inl e
        · exact .inr ⟨b,by simp [hb],e⟩
      · rintro (e | ⟨b,hb,e⟩)
        · exact .inl (.inr e)
        · rcases List.mem_cons.1 hb with rfl | hb
          · exact .inl (.inl e.2)
          · exact .inr ⟨b,hb,e⟩
    · rw [if_neg hc]
      obtain ⟨i1,i2⟩:=ih P h
      refine ⟨i1,fun y => ?_⟩
      rw [i2]
      constructor
      · rintro (e | ⟨b,hb,e⟩)
        · exact .inl e
        · exact .inr ⟨b,by simp [hb],e⟩
      · rintro (e | ⟨b,hb,e1,e2⟩)
        · exact .inl e
        · rcases List.mem_cons.1 hb with rfl | hb
          · exact (hc e1).elim
          · exact .inr ⟨b,hb,e1,e2⟩
theorem rise_ext : ∀ {a b : List (List UInt8)},Rise a→Rise b→(∀ y,y ∈ a ↔ y ∈ b)→a = b:=by
  intro a
  induction a with
  | nil =>
    intro b _ _ h
    cases b with
    | nil=>rfl
    | cons y r=>have:=(h y).2 (by simp); cases this
  | cons x r ih =>
    intro b h1 h2 h
    cases b with
    | nil=>have:=(h x).1 (by simp); cases this
    | cons y r' =>
      have h1':=List.pairwise_cons.1 h1
      have h2':=List.pairwise_cons.1 h2
      have hxy : x = y:=by
        rcases List.mem_cons.1 ((h x).1 (by simp)) with e | hx
        · exact e
        rcases List.mem_cons.1 ((h y).2 (by simp)) with e | hy
        · exact e.symm
        exact (lt_irrefl' x (List.lt_trans (h1'.1 y hy) (h2'.1 x hx))).elim
      subst hxy
      congr 1
      refine ih h1'.2 h2'.2 ?_
      intro p
      constructor
      · intro hp
        rcases List.mem_cons.1 ((h p).1 (by simp [hp])) with e | hp'
        · subst e; exact (lt_irrefl' _ (h1'.1 p hp)).elim
        · exact hp'
      · intro hp
        rcases List.mem_cons.1 ((h p).2 (by simp [hp])) with e | hp'
        · subst e; exact (lt_irrefl' _ (h2'.1 p hp)).elim
        · exact hp'
theorem route_shelf (sb mb : Nat) (h0 : 0≠mb) (c : Nat) {B : Bk} {m : M} (h : Rg B m) (ex key : ByteArray) (hne : emptyB ex = false) : (shelf sb mb h0).routeR (c,m) ex key = B.route ex key:=by
  unfold Sto.routeR Bk.route
  cases hn : nameB ex with
  | false=>simp [hne]
  | true =>
    cases hk : keyW key with
    | false=>simp [hne]
    | true =>
      simp only [hne,Bool.false_eq_true,Zag,Bool.true_eq_false]
      obtain ⟨D,d1,d2,d3⟩:=bindings_shelf sb mb h0 c h ex
      rw [d1,routeL_map]
      have hnil : D.length = 0 ↔ (B.bs.filter fun b=>b.ex.toList == ex.toList).length = 0:=by
        rw [List.length_eq_zero_iff,List.length_eq_zero_iff,List.eq_nil_iff_forall_not_mem,List.eq_nil_iff_forall_not_mem]
        have e : ∀ b,b ∈ (B.bs.filter fun b=>b.ex.toList == ex.toList) ↔ b ∈ D:=by
          intro b
          rw [d2,mem_exL,List.mem_filter,tl_eq]
          simp
        exact ⟨fun x b hb=>x b ((e b).1 hb),fun x b hb=>x b ((e b).2 hb)⟩
      by_cases hz : D.length = 0
      · rw [if_pos (by omega),if_pos (hnil.1 hz)]
      · rw [if_neg (by omega),if_neg (fun x=>hz (hnil.2 x))]
        obtain ⟨i1,i2⟩:=ins_fold_mem key D [] List.Pairwise.nil
        obtain ⟨j1,j2⟩:=fitL_mem ex key B.bs [] List.Pairwise.nil
        refine Prod.ext (rise_ext i1 j1 ?_) rfl
        intro y
        rw [i2,j2]
        simp only [Zbv,false_or]
        constructor
        · rintro ⟨b,hb,e⟩
          obtain ⟨e1,e2⟩:=mem_exL.1 ((d2 b).1 hb)
          exact ⟨b,e1,e2,e⟩
        · rintro ⟨b,hb,e1,e2⟩
          exact ⟨b,(d2 b).2 (mem_exL.2 ⟨hb,e1⟩),e2⟩
def Bk.names (B : Bk) : List (List UInt8):=B.qs.foldl (fun P q=>wgo q.name.data.toList false P) []
end Go.Oct
