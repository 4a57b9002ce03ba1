import Derived.Test.YtbkddpckkgbbmaaGreatDoorVqC
import Derived.Test.YtbkddpckkgbbmaaGreatDoorVcT
import Derived.Test.YtbkddpckkgbbmaaGreatDoorVfM
set_option linter.unusedSimpArgs false
set_option linter.unusedVariables false
set_option linter.unusedSectionVars false
set_option linter.unnecessarySimpa false
namespace Go.Oct
open Go Go.Vc Go.VrA Go.VrB Go.VrC
set_option maxRecDepth 100000
def lessR : List Pt→List Pt→Bool
  | p :: l,q :: m=>if p.t≠q.t then q.t else if p.t = true∧p.s≠q.s then decide (p.s.data.toList < q.s.data.toList) else if p.t = false∧p.n≠q.n then decide (p.n < q.n) else lessR l m
  | [],m=>decide (0 < m.length)
  | _ :: _,[]=>false
theorem lessR_cons (p q : Pt) (l m : List Pt) : lessR (p :: l) (q :: m) = if p.t≠q.t then q.t else if p.t = true∧p.s≠q.s then decide (p.s.data.toList < q.s.data.toList) else if p.t = false∧p.n≠q.n then decide (p.n < q.n) else lessR l m:=rfl
structure LessI (ρ : Env) (u : World) (S : List Value) (p q : Pt) (L : Nat→Bool) (ρ' : Env) (w' : World) : Prop where
  frame : ∀ t,(t = 0∨t = 1∨t = 5)→ρ' t = ρ t
  md : Mod (fun _=>False) u w'
  f : ∀ (k : Nat) v,S[k]? = some v→L k = true→ρ' (20 + k) = v
  f8 : L 8 = true→∃ b c,ρ' 6 = .pointer (some ⟨b,0,none⟩)∧u.heap.size≤b∧w'.heap[b]? = some (.cells c 234 (0,0))∧c.size = 3∧(L 10 = true→c = p.cells.toArray)
  f9 : L 9 = true→∃ b c,ρ' 7 = .pointer (some ⟨b,0,none⟩)∧u.heap.size≤b∧w'.heap[b]? = some (.cells c 234 (0,0))∧c.size = 3∧(L 11 = true→c = q.cells.toArray)
  f89 : L 8 = true→L 9 = true→ρ' 6≠ρ' 7
  d10 : L 10 = true→L 8 = true
  d11 : L 11 = true→L 9 = true
theorem LessI.put {ρ ρ' : Env} {u w' : World} {S : List Value} {p q : Pt} {L : Nat→Bool} (h : LessI ρ u S p q L ρ' w') (k : Nat) (v : Value) (hk : k < 8) (hv : S[k]? = some v) :
    LessI ρ u S p q (fun j=>j == k || L j) (upd ρ' (20 + k) v) w':=by
  have hL : ∀ j,8≤j→(j == k || L j) = true→L j = true:=by
    intro j hj hb
    have : (j == k) = false:=by simp; omega
    rw [this] at hb; exact hb
  refine ⟨fun t ht => ?_,h.md,fun j x hj hb => ?_,fun hb => ?_,fun hb => ?_,fun hb hb' => ?_,fun hb => ?_,fun hb => ?_⟩
  · rw [upd_other (by omega)]; exact h.frame t ht
  · by_cases hjk : j = k
    · subst hjk
      rw [upd_same]
      rw [hv] at hj; exact Option.some.inj hj
    · rw [upd_other (by omega)]
      have : (j == k) = false:=by simpa using hjk
      rw [this] at hb
      exact h.f j x hj hb
  · obtain ⟨b,c,h1,h2,h3,h4,h5⟩:=h.f8 (hL 8 (by omega) hb)
    exact ⟨b,c,by rw [upd_other (by omega)]; exact h1,h2,h3,h4,fun hb=>h5 (hL 10 (by omega) hb)⟩
  · obtain ⟨b,c,h1,h2,h3,h4,h5⟩:=h.f9 (hL 9 (by omega) hb)
    exact ⟨b,c,by rw [upd_other (by omega)]; exact h1,h2,h3,h4,fun hb=>h5 (hL 11 (by omega) hb)⟩
  · rw [upd_other (by omega),upd_other (by omega)]
    exact h.f89 (hL 8 (by omega) hb) (hL 9 (by omega) hb')
  · rw [h.d10 (hL 10 (by omega) hb)]; simp
  · rw [h.d11 (hL 11 (by omega) hb)]; simp
theorem LessI.old {L : Nat→Bool} {k j : Nat} (hne : j≠k) (h : (j == k || L j) = true) : L j = true:=by
  have : (j == k) = false:=by simpa using hne
  rw [this] at h; exact h
def aheadR (a b : Ms) : Bool:=lessR [str a.queue,num' a.id] [str b.queue,num' b.id]
end Go.Oct
namespace Go.Oct
open Go Go.Vc Go.VrA Go.VrB Go.VrC
set_option maxRecDepth 100000
def IsBx (w : World) (v : Value) (l : List Ms) : Prop :=
  (∃ a c,v = .slice a l.length c)∧∀ (i : Nat) m,l[i]? = some m→∃ b o c cur t f,v = .slice (some ⟨b,o,none⟩) l.length c∧w.heap[b]? = some (.cells cur t f)∧o + i * 5 + 5≤cur.size∧cur.extract (o + i * 5) (o + i * 5 + 5) = m.cells.toArray
theorem IsBx.mod {w w' : World} {S : Nat→Prop} {v : Value} {l : List Ms} (h : IsBx w v l) (hm : Mod S w w') (hS : ∀ k,v.ownBlock = some k→¬ S k) : IsBx w' v l :=
  ⟨h.1,fun i x hx=>by obtain ⟨b,o,c,cur,t,f,h1,h2,h3⟩:=h.2 i x hx; exact ⟨b,o,c,cur,t,f,h1,hm.keep h2 (hS b (by rw [h1]; rfl)),h3⟩⟩
theorem IsBx.keep {w w' : World} {v : Value} {l : List Ms} (h : IsBx w v l) (hm : Mod (fun _=>False) w w') : IsBx w' v l:=h.mod hm (fun _ _ x=>x)
theorem IsBx.nil (w : World) : IsBx w (.slice none 0 0) []:=⟨⟨none,0,rfl⟩,fun i x hx=>by simp at hx⟩
theorem IsBx.own {w : World} {B : Nat} {v : Value} {l : List Ms} (h : w.ownsRow B 49 5 v l.length (l.flatMap Ms.cells)) : IsBx w v l:=by
  rcases h.2 with ⟨rfl,h0⟩ | ⟨g,cap,cur,rfl,_,hg,_,_,hs,hc⟩
  · have : l = []:=List.length_eq_zero_iff.1 h0
    subst this; exact IsBx.nil w
  · refine ⟨⟨_,_,rfl⟩,fun i m hm=>⟨g,0,cap,cur,_,_,rfl,hg, ?_⟩⟩
    have h' : (cur.toList.drop 0).take (l.length * 5) = l.flatMap Ms.cells:=by simpa using hc
    have:=row_at (s:=5) (cells:=Ms.cells) (fun _=>rfl) h' (j:=i) (p:=m) hm (by decide)
    simpa using this
end Go.Oct
namespace Go.Oct
open Go Go.Vc Go.VrA Go.VrB Go.VrC
set_option maxRecDepth 100000
def insR (m : Ms) : List Ms→List Ms
  | []=>[m]
  | x :: r=>if aheadR m x = true then m :: x :: r else x :: insR m r
theorem insR_cons (m x : Ms) (r : List Ms) : insR m (x :: r) = if aheadR m x = true then m :: x :: r else x :: insR m r:=rfl
end Go.Oct
namespace Go.Oct
open Go Go.Vc Go.VrA Go.VrB Go.VrC
set_option maxRecDepth 100000
end Go.Oct
namespace Go.Oct
open Go Go.Vc Go.VrA Go.VrB Go.VrC
set_option maxRecDepth 100000
def rthB (b : Bi) : Value:=.agg #[.string ⟨#[98]⟩,.string ⟨#[]⟩,.int .u64 0,.int .u64 0,.string b.ex,.int .i64 b.kind,.string b.key,.string b.q,.string ⟨#[]⟩]
def rthC (n : ByteArray) : Value:=.agg #[.string ⟨#[99]⟩,.string ⟨#[]⟩,.int .u64 0,.int .u64 0,.string ⟨#[]⟩,.int .i64 0,.string ⟨#[]⟩,.string ⟨#[]⟩,.string n]
theorem rrow_b (b : Bi) (w : World) (K : Value→World→Prop) (h : ∀ w' v,Mod (fun _=>False) w w'→IsRp w' v (str ⟨#[98]⟩ :: bindP b)→K v w') :
    Ok Proofs.Tryz.prog 189 #[rthB b] w K:=by
  refine VrC.F189.enter (args:=[rthB b]) (by simp) ?_
  unfold VrC.c189 VrC.r189
  simp only [ZB,insVc,load1K,faddrK,Value.cells,ne_eq,Nat.reduceEqDiff,Zab,Zad,Zae,Za,Zah,Zbg,rthB]
  refine rstr_c _ _ _ ?_
  intro w1 hm1
  have b1 : w1.heap[w.heap.size]? = some (.cells #[.string ⟨#[98]⟩,.string ⟨#[]⟩,.int .u64 0,.int .u64 0,.string b.ex,.int .i64 b.kind,.string b.key,.string b.q,.string ⟨#[]⟩] 232 (0,0)):=hm1.keep (get_alloc_new _ _) id
  have hm01:=((Mod.refl (fun _=>False) w).alloc _).trans hm1
  have hn1 : ¬ w.heap.size = w1.heap.size:=Nat.ne_of_lt (lt_of_get b1)
  have e1 : ((⟨#[98]⟩ : ByteArray).toList == (⟨#[113]⟩ : ByteArray).toList) = false:=by simp
  have e2 : ((⟨#[98]⟩ : ByteArray).toList == (⟨#[109]⟩ : ByteArray).toList) = false:=by simp
  have e3 : ((⟨#[98]⟩ : ByteArray).toList == (⟨#[101]⟩ : ByteArray).toList) = false:=by simp
  have e4 : ((⟨#[98]⟩ : ByteArray).toList == (⟨#[98]⟩ : ByteArray).toList) = true:=by simp
  simp only [ZB,insVc,load1K,sopK,sopV,faddrK,fillL,buildSK,Value.cells,ne_eq,Nat.reduceEqDiff,Nat.reduceAdd,Nat.reduceLeDiff,Za,Zah,Zak,Zai,Zaj,Zbc,Zbd,Zba,Zbb,Zal,Zam,Zan,Zbf,Zac,Zag,get_alloc,Nat.reduceAdd,Nat.reduceEqDiff,Pt.val,Pt.cells,str,b1,hn1,e1,e2,e3,e4]
  refine vc_gen ?_
  intro w2 hw2
  have hm2 : Mod (fun _=>False) w w2:=by rw [hw2]; exact hm01.alloc _
  have p2 : w2.heap[w.heap.size]? = some (.cells #[.string ⟨#[98]⟩,.string ⟨#[]⟩,.int .u64 0,.int .u64 0,.string b.ex,.int .i64 b.kind,.string b.key,.string b.q,.string ⟨#[]⟩] 232 (0,0)):=by rw [hw2]; simp only [get_alloc,hn1]; exact b1
  have l2 : w2.heap[w1.heap.size]? = some (.cells #[.bool true,.int .u64 0,.string ⟨#[98]⟩] 234 (0,0)):=by rw [hw2]; exact get_alloc_new _ _
  clear hw2
  refine draw_d (fun W=>W.heap[w.heap.size]? = some (.cells #[.string ⟨#[98]⟩,.string ⟨#[]⟩,.int .u64 0,.int .u64 0,.string b.ex,.int .i64 b.kind,.string b.key,.string b.q,.string ⟨#[]⟩] 232 (0,0))) (by kernel_rfl) (by kernel_rfl) (by kernel_rfl) (by kernel_rfl) p2 ?_
  simp only [ZB,endK,resK,packed,insVc,convK,faddrK,fillL,buildSK,Value.cells,ne_eq,Nat.reduceEqDiff,Nat.reduceAdd,Nat.reduceLeDiff,Zad,Zae,Zak,Zai,Zaj,Zaa,Zac,Zag,pureI,vcD_nil,vcD_cons,stepD_pure,stepD_load,stepD_step,kindI,loadI]
  refine loadD1 (b:=w.heap.size) (o:=4) (v:=.string b.ex) rfl (fun W hW=>⟨_,_,_,hW,rfl⟩) ?_
  refine rstr_c _ _ _ ?_
  intro w3 hm3
  have p3:=hm3.keep (show w2.drew.heap[w.heap.size]? = _ from p2) id
  refine ⟨p3, ?_⟩
  refine loadD1 (b:=w.heap.size) (o:=5) (v:=.int .i64 b.kind) rfl (fun W hW=>⟨_,_,_,hW,rfl⟩) ?_
  simp only [kindN_eq]
  refine rnum_c _ _ _ ?_
  intro w4 hm4
  have p4:=hm4.keep p3 id
  refine ⟨p4, ?_⟩
  refine loadD1 (b:=w.heap.size) (o:=6) (v:=.string b.key) rfl (fun W hW=>⟨_,_,_,hW,rfl⟩) ?_
  refine rstr_c _ _ _ ?_
  intro w5 hm5
  have p5:=hm5.keep p4 id
  refine ⟨p5, ?_⟩
  refine loadD1 (b:=w.heap.size) (o:=7) (v:=.string b.q) rfl (fun W hW=>⟨_,_,_,hW,rfl⟩) ?_
  refine rstr_c _ _ _ ?_
  intro w6 hm6
  have p6:=hm6.keep p5 id
  refine ⟨p6, ?_⟩
  have hm26:=((hm3.trans hm4).trans hm5).trans hm6
  have l6:=hm26.keep (show w2.drew.heap[w1.heap.size]? = _ from l2) id
  simp only [Nat.reduceAdd,Nat.reduceLeDiff,Zak,Zai,Zaj,Zbc,Zbd,Zba,Zbb,Zal,Zam,Zan,Zbf,and_self,Zac,Nat.zero_add,Nat.add_zero,Pt.val,Pt.cells,str,num']
  have hsz : w.heap.size < w6.heap.size:=lt_of_get p6
  obtain ⟨v7,w7,hr7,ho7,hm7⟩:=append_rp w1.heap.size (.slice (some ⟨w1.heap.size,0,none⟩) 1 1) [str ⟨#[98]⟩] (bindP b) w6
    ⟨rfl,.inr ⟨w1.heap.size,1,_,rfl,Nat.le_refl _,l6,Nat.le_refl _,by decide,rfl,rfl⟩⟩ (Nat.le_of_lt (lt_of_get l6)) (by simp [bindP]) (by simp [bindP]) (fun k hk=>by have:=Option.some.inj hk; subst this; exact lt_of_get l6) 237
  have hne : ∀ k,(Value.slice (some ⟨w1.heap.size,0,none⟩) 1 1).ownBlock = some k→k = w1.heap.size:=fun k hk=>(Option.some.inj hk).symm
  have p7:=hm7.keep p6 (fun x=>hn1 (hne _ x))
  refine ⟨by simp only [get_alloc,Nat.ne_of_lt hsz]; exact p6,rawK_append (s:=.tmp 45) (x:=.tmp 63) rfl rfl rfl hr7 ⟨p7, ?_⟩⟩
  exact h w7 v7 ((hm2.drew.trans hm26).then hm7 (fun k hk he=>by have:=hne k he; subst this; exact (Nat.lt_irrefl _ (Nat.lt_trans hk (lt_of_get b1))).elim)) ho7
theorem rrow_c (n : ByteArray) (w : World) (K : Value→World→Prop) (h : ∀ w' v,Mod (fun _=>False) w w'→IsRp w' v [str ⟨#[99]⟩,str n]→K v w') :
    Ok Proofs.Tryz.prog 189 #[rthC n] w K:=by
  refine VrC.F189.enter (args:=[rthC n]) (by simp) ?_
  unfold VrC.c189 VrC.r189
  simp only [ZB,insVc,load1K,faddrK,Value.cells,ne_eq,Nat.reduceEqDiff,Zab,Zad,Zae,Za,Zah,Zbg,rthC]
  refine rstr_c _ _ _ ?_
  intro w1 hm1
  have b1 : w1.heap[w.heap.size]? = some (.cells #[.string ⟨#[99]⟩,.string ⟨#[]⟩,.int .u64 0,.int .u64 0,.string ⟨#[]⟩,.int .i64 0,.string ⟨#[]⟩,.string ⟨#[]⟩,.string n] 232 (0,0)):=hm1.keep (get_alloc_new _ _) id
  have hm01:=((Mod.refl (fun _=>False) w).alloc _).trans hm1
  have hn1 : ¬ w.heap.size = w1.heap.size:=Nat.ne_of_lt (lt_of_get b1)
  have e1 : ((⟨#[99]⟩ : ByteArray).toList == (⟨#[113]⟩ : ByteArray).toList) = false:=by simp
  have e2 : ((⟨#[99]⟩ : ByteArray).toList == (⟨#[109]⟩ : ByteArray).toList) = false:=by simp
  have e3 : ((⟨#[99]⟩ : ByteArray).toList == (⟨#[101]⟩ : ByteArray).toList) = false:=by simp
  have e4 : ((⟨#[99]⟩ : ByteArray).toList == (⟨#[98]⟩ : ByteArray).toList) = false:=by simp
  have e5 : ((⟨#[99]⟩ : ByteArray).toList == (⟨#[99]⟩ : ByteArray).toList) = true:=by simp
  simp only [ZB,insVc,load1K,sopK,sopV,faddrK,fillL,buildSK,Value.cells,ne_eq,Nat.reduceEqDiff,Nat.reduceAdd,Nat.reduceLeDiff,Zad,Zae,Za,Zaf,Zah,Zak,Zai,Zaj,Zbc,Zbd,Zba,Zbb,Zal,Zam,Zan,Zbf,Zac,Zag,get_alloc,Nat.reduceAdd,Nat.reduceEqDiff,Pt.val,Pt.cells,str,b1,hn1,e1,e2,e3,e4,e5]
  refine callK_gen ?_
  intro w2 hw2
  have hm2 : Mod (fun _=>False) w w2:=by rw [hw2]; exact hm01.alloc _
  have p2 : w2.heap[w.heap.size]? = some (.cells #[.string ⟨#[99]⟩,.string ⟨#[]⟩,.int .u64 0,.int .u64 0,.string ⟨#[]⟩,.int .i64 0,.string ⟨#[]⟩,.string ⟨#[]⟩,.string n] 232 (0,0)):=by rw [hw2]; simp only [get_alloc,hn1]; exact b1
  have l2 : w2.heap[w1.heap.size]? = some (.cells #[.bool true,.int .u64 0,.string ⟨#[99]⟩] 234 (0,0)):=by rw [hw2]; exact get_alloc_new _ _
  clear hw2
  refine rstr_c _ _ _ ?_
  intro w6 hm6
  have p6:=hm6.keep p2 id
  have l6:=hm6.keep l2 id
  simp only [ZB,insVc,fillL,buildSK,Value.cells,Nat.reduceAdd,Nat.reduceLeDiff,Zak,Zai,Zaj,Zbc,Zbd,Zba,Zbb,Zal,Zam,Zan,Zbf,Zac,Pt.val,Pt.cells,str]
  obtain ⟨v7,w7,hr7,ho7,hm7⟩:=append_rp w1.heap.size (.slice (some ⟨w1.heap.size,0,none⟩) 1 1) [str ⟨#[99]⟩] [str n] w6
    ⟨rfl,.inr ⟨w1.heap.size,1,_,rfl,Nat.le_refl _,l6,Nat.le_refl _,by decide,rfl,rfl⟩⟩ (Nat.le_of_lt (lt_of_get l6)) (by simp) (by simp) (fun k hk=>by have:=Option.some.inj hk; subst this; exact lt_of_get l6) 237
  have hne : ∀ k,(Value.slice (some ⟨w1.heap.size,0,none⟩) 1 1).ownBlock = some k→k = w1.heap.size:=fun k hk=>(Option.some.inj hk).symm
  refine rawK_append rfl rfl rfl hr7 ?_
  simp only [ZB,endK,resK,packed,insVc,Zaa]
  exact h w7 v7 ((hm2.trans hm6).then hm7 (fun k hk he=>by have:=hne k he; subst this; exact (Nat.lt_irrefl _ (Nat.lt_trans hk (lt_of_get b1))).elim)) ho7
theorem rkey_b (b : Bi) (w : World) (K : Value→World→Prop) (hb : b.good)
    (h : ∀ w',Mod (fun _=>False) w w'→K (.tuple #[.string (bindK b).1,.int .i64 (bindK b).2]) w') :
    Ok Proofs.Tryz.prog 135 #[rthB b] w K:=by
  refine VrC.F135.enter (args:=[rthB b]) (by simp) ?_
  unfold VrC.c135 VrC.r135
  simp only [ZB,insVc,loadNK,Value.cells,ne_eq,Nat.reduceEqDiff,Nat.reduceAdd,Nat.reduceLeDiff,Zab,Zad,Zae,Za,Zak,Zai,Zaj,Zb,Zaz,Zav,Zar,Zay,Zaw,Zbg,rthB]
  refine rrow_b b _ _ ?_
  intro w1 v hm1 hv
  simp only [ZB,insVc,Zad,Zae]
  refine rkey_c _ v w1 _ hv (by simp [bindP]) ?_ ?_
  · intro p hp
    rcases List.mem_cons.1 hp with rfl | hp
    · exact ⟨by simp [str],by simp [str,ByteArray.size]⟩
    · exact bindP_good b hb p hp
  intro w2 hm2
  simp only [ZB,endK,resK,packed,insVc,extK,ne_eq,Nat.reduceEqDiff,Za,Zaf,Zah,Zaa,Zap]
  exact h w2 (((Mod.refl _ _).alloc _).trans (hm1.trans hm2))
theorem rkey_ct (n : ByteArray) (w : World) (K : Value→World→Prop) (hn : n.size < 4294967281)
    (h : ∀ w',Mod (fun _=>False) w w'→K (.tuple #[.string (counterK n).1,.int .i64 (counterK n).2]) w') :
    Ok Proofs.Tryz.prog 135 #[rthC n] w K:=by
  refine VrC.F135.enter (args:=[rthC n]) (by simp) ?_
  unfold VrC.c135 VrC.r135
  simp only [ZB,insVc,loadNK,Value.cells,ne_eq,Nat.reduceEqDiff,Nat.reduceAdd,Nat.reduceLeDiff,Zab,Zad,Zae,Za,Zak,Zai,Zaj,Zb,Zaz,Zav,Zar,Zay,Zaw,Zbg,rthC]
  refine rrow_c n _ _ ?_
  intro w1 v hm1 hv
  simp only [ZB,insVc,Zad,Zae]
  refine rkey_c _ v w1 _ hv (by simp) ?_ ?_
  · intro p hp
    simp only [Zbu,Zbv,or_false] at hp
    rcases hp with rfl | rfl
    · exact ⟨by simp [str],by simp [str,ByteArray.size]⟩
    · exact ⟨by simp [str],hn⟩
  intro w2 hm2
  simp only [ZB,endK,resK,packed,insVc,extK,ne_eq,Nat.reduceEqDiff,Za,Zaf,Zah,Zaa,Zap]
  exact h w2 (((Mod.refl _ _).alloc _).trans (hm1.trans hm2))
end Go.Oct
