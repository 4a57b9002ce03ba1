import Derived.Test.YtbkddpckkgbbmaaGreatDoorVfI
import Derived.Test.YtbkddpckkgbbmaaGreatDoorTryzSlc
import Derived.Test.YtbkddpckkgbbmaaGreatDoorTryzShelf
import Derived.Test.YtbkddpckkgbbmaaGreatDoorVoT
set_option linter.unusedSimpArgs false
set_option linter.unusedVariables false
set_option linter.unusedSectionVars false
set_option linter.unnecessarySimpa false
namespace Go.Oct
open Go Go.Vc Go.VrA Go.VrF
set_option maxRecDepth 100000
theorem setCell_set {w : World} {b o : Nat} {v : Value} {cur : Array Value} {t : TypeId} {f : Nat × Nat} (h : w.heap[b]? = some (.cells cur t f)) : w.setCell ⟨b,o,none⟩ v = Vc.set w b (.cells (cur.setIfInBounds o v) t f):=by
  unfold World.setCell Vc.set
  congr 1
  apply Array.ext_getElem?
  intro i
  rw [Array.getElem?_modify,Array.getElem?_setIfInBounds]
  by_cases hi : b = i
  · subst hi
    rw [if_pos rfl,if_pos rfl,if_pos (lt_of_get h),h]
    rfl
  · rw [if_neg hi,if_neg hi]
theorem setCells_heap (b : Nat) (t : TypeId) (f : Nat × Nat) : ∀ (vs : List Value) (o : Nat) (w : World) (cur : Array Value),w.heap[b]? = some (.cells cur t f)→o + vs.length≤cur.size →
    ∃ cur',(w.setCells b o vs).heap[b]? = some (.cells cur' t f)∧cur'.size = cur.size∧(∀ j,j < o→cur'[j]? = cur[j]?)∧(∀ j,j < vs.length→cur'[o + j]? = vs[j]?)∧(∀ j,o + vs.length≤j→cur'[j]? = cur[j]?)∧Mod (fun k=>k = b) w (w.setCells b o vs):=by
  intro vs
  induction vs with
  | nil=>intro o w cur h _; exact ⟨cur,h,rfl,fun _ _=>rfl,fun j hj=>by simp at hj,fun _ _=>rfl,Mod.refl _ _⟩
  | cons v r ih =>
    intro o w cur h hl
    rw [List.length_cons] at hl
    have hs:=setCell_set (o:=o) (v:=v) h
    have h1 : (w.setCell ⟨b,o,none⟩ v).heap[b]? = some (.cells (cur.setIfInBounds o v) t f):=by rw [hs]; exact get_set_same _ _ _ (lt_of_get h)
    have hm1 : Mod (fun k=>k = b) w (w.setCell ⟨b,o,none⟩ v):=by rw [hs]; exact (Mod.refl _ _).set (.inr rfl)
    obtain ⟨cur',e1,e2,e3,e4,e5,e6⟩:=ih (o + 1) _ _ h1 (by rw [Array.size_setIfInBounds]; omega)
    rw [Array.size_setIfInBounds] at e2
    have get : ∀ j,j≠o→(cur.setIfInBounds o v)[j]? = cur[j]?:=fun j hj=>by rw [Array.getElem?_setIfInBounds,if_neg (fun e=>hj e.symm)]
    refine ⟨cur',e1,e2, ?_, ?_, ?_,hm1.trans e6⟩
    · intro j hj
      rw [e3 j (by omega),get j (by omega)]
    · intro j hj
      cases j with
      | zero =>
        rw [Nat.add_zero,e3 o (by omega),Array.getElem?_setIfInBounds,if_pos rfl,if_pos (by omega)]; rfl
      | succ j =>
        have:=e4 j (by rw [List.length_cons] at hj; omega)
        rw [List.getElem?_cons_succ,← this]
        congr 1; omega
    · intro j hj
      rw [List.length_cons] at hj
      rw [e5 j (by omega),get j (by omega)]
def Rise (l : List (List UInt8)) : Prop:=l.Pairwise fun a b=>a < b
theorem pos_ex (x : List UInt8) : ∀ (l : List (List UInt8)),Rise l→∃ k,k≤l.length∧(∀ t y,t < k→l[t]? = some y→y < x)∧(∀ t y,k≤t→l[t]? = some y→¬ y < x):=by
  intro l
  induction l with
  | nil=>intro _; exact ⟨0,Nat.le_refl _,fun t y h=>by omega,fun t y _ h=>by simp at h⟩
  | cons a r ih =>
    intro h
    have h':=List.pairwise_cons.1 h
    by_cases ha : a < x
    · obtain ⟨k,h1,h2,h3⟩:=ih h'.2
      refine ⟨k + 1,by rw [List.length_cons]; omega, ?_, ?_⟩
      · intro t y ht hy
        cases t with
        | zero=>simp at hy; rw [← hy]; exact ha
        | succ t=>exact h2 t y (by omega) (by simpa using hy)
      · intro t y ht hy
        cases t with
        | zero=>omega
        | succ t=>exact h3 t y (by omega) (by simpa using hy)
    · refine ⟨0,Nat.zero_le _,fun t y h=>by omega, ?_⟩
      intro t y _ hy hlt
      cases t with
      | zero=>simp at hy; rw [← hy] at hlt; exact ha hlt
      | succ t =>
        have:=h'.1 y (List.mem_of_getElem? (by simpa using hy : r[t]? = some y))
        exact ha (List.lt_trans this hlt)
theorem drewN_mod (w : World) (q : Nat) : Mod (fun _=>False) w (w.drewN q):=⟨rfl,rfl,rfl,Nat.le_refl _,fun _ _ _=>rfl⟩
theorem own_cell {w : World} {lo : Nat} {g cap : Nat} {l : List Value} {t : TypeId} (h : w.ownsRow lo t 1 (.slice (some ⟨g,0,none⟩) l.length cap) l.length l) : ∃ cur,w.heap[g]? = some (.cells cur t (0,0))∧lo≤g∧l.length≤cap∧cap≤maxLen∧cur.size = cap∧∀ (j : Nat) x,l[j]? = some x→cur[j]? = some x:=by
  rcases h.2 with ⟨h0,_⟩ | ⟨g',cap',cur,he,hlo,hg,hnc,hcm,hs,hc⟩
  · cases h0
  · simp only [Value.slice.injEq,Option.some.injEq,Addr.mk.injEq] at he
    obtain ⟨⟨rfl,_,_⟩,_,rfl⟩:=he
    refine ⟨cur,hg,hlo,hnc,hcm,by omega,fun j x hx => ?_⟩
    have hil:=(List.getElem?_eq_some_iff.1 hx).1
    have h1 : (cur.toList.take (l.length * 1))[j]? = some x:=by rw [hc]; exact hx
    rw [List.getElem?_take,if_pos (by omega)] at h1
    simpa using h1
theorem bsearch_c (l : List (List UInt8)) (x : ByteArray) (lo : Nat) (v : Value) (w : World) (K : Value→World→Prop) (ho : w.ownsRow lo 9 1 v l.length (stV l)) (hr : Rise l) (hl : l.length < 2 ^ 20)
    (h : ∀ w' k,Mod (fun _=>False) w w'→k≤l.length→(∀ t y,t < k→l[t]? = some y→y < x.data.toList)→(∀ t y,k≤t→l[t]? = some y→¬ y < x.data.toList)→K (.tuple #[.int .i64 (k : Nat),.bool (decide (l[k]? = some x.data.toList))]) w') :
    Ok Proofs.Tryz.prog 198 #[v,.string x] w K:=by
  have hsv:=stV_len l
  rcases ho.2 with ⟨rfl,h0⟩ | ⟨g,cap,cur0,rfl,_⟩
  · have hl0 : l = []:=List.eq_nil_of_length_eq_zero h0
    subst hl0
    refine ok_of_calls (by kernel_rfl) (Go.Proofs.Any2.slices_BinarySearch_string_empty Go.Proofs.Tryz.laysNm226 none 0 x w) ?_
    rintro e w' ⟨rfl,rfl⟩
    refine ⟨_,rfl, ?_⟩
    have:=h w' 0 (Mod.refl _ _) (Nat.le_refl _) (fun t y h=>by omega) (fun t y _ h=>by simp at h)
    simpa using this
  · have hl' : (stV l).length = l.length:=hsv
    have ho' : w.ownsRow lo 9 1 (.slice (some ⟨g,0,none⟩) (stV l).length cap) (stV l).length (stV l):=by rw [hl']; exact ho
    obtain ⟨cur,hg,_,_,_,_,hc⟩:=own_cell ho'
    obtain ⟨k,k1,k2,k3⟩:=pos_ex x.data.toList l hr
    let Sx : Nat→ByteArray:=fun t=>⟨((l[t]?).getD x.data.toList).toArray⟩
    have hsp : Lib.bsGo (fun t=>Op.bytesLess (Sx t).toList x.toList) l.length 0 l.length = k:=by
      refine Lib.bsGo_spec _ k ?_ ?_ l.length 0 l.length (by omega) (Nat.zero_le _) k1
      · intro t ht
        show Op.bytesLess (Sx t).toList x.toList = true
        rw [ByteArray.toList_eq,ByteArray.toList_eq,Go.Proofs.bytesLess_eq]
        have hy : l[t]? = some (l[t]'(by omega)):=List.getElem?_eq_getElem _
        have : (Sx t).data.toList = l[t]'(by omega):=by simp [Sx,hy]
        rw [this]
        exact decide_eq_true (k2 t _ ht hy)
      · intro t ht
        show Op.bytesLess (Sx t).toList x.toList = false
        rw [ByteArray.toList_eq,ByteArray.toList_eq,Go.Proofs.bytesLess_eq]
        by_cases htl : t < l.length
        · have hy : l[t]? = some (l[t]'htl):=List.getElem?_eq_getElem _
          have : (Sx t).data.toList = l[t]'htl:=by simp [Sx,hy]
          rw [this]
          exact decide_eq_false (k3 t _ ht hy)
        · have hy : l[t]? = none:=List.getElem?_eq_none (by omega)
          have : (Sx t).data.toList = x.data.toList:=by simp [Sx,hy]
          rw [this]
          exact decide_eq_false (List.lt_irrefl _)
    refine ok_of_calls (by kernel_rfl) (Go.Proofs.Any2.slices_BinarySearch_string Go.Proofs.Tryz.laysNm226 g 0 l.length cap Sx x w (by omega) ?_) ?_
    · intro j hj
      have hy : l[j]? = some (l[j]'hj):=List.getElem?_eq_getElem _
      have hcj:=hc j (.string ⟨(l[j]'hj).toArray⟩) (by simp [stV,hy])
      have : Sx j = ⟨(l[j]'hj).toArray⟩:=by simp [Sx,hy]
      rw [this,Nat.zero_add]
      simp only [World.cell?,hg]
      exact hcj
    · rintro e w' ⟨rfl,q,rfl⟩
      refine ⟨_,rfl, ?_⟩
      rw [hsp]
      have hb : decide (k < l.length∧Sx k = x) = decide (l[k]? = some x.data.toList):=by
        by_cases hk : k < l.length
        · have hy : l[k]? = some (l[k]'hk):=List.getElem?_eq_getElem _
          rw [hy]
          by_cases e : (l[k]'hk) = x.data.toList
          · have : Sx k = x:=by
              apply ByteArray.ext
              apply Array.ext'
              simp [Sx,hy,e]
            rw [decide_eq_true ⟨hk,this⟩,decide_eq_true (by rw [e])]
          · have : ¬ Sx k = x:=by
              intro h
              apply e
              rw [← h]; simp [Sx,hy]
            rw [decide_eq_false (fun h=>this h.2),decide_eq_false (fun h=>e (Option.some.inj h))]
        · have hy : l[k]? = none:=List.getElem?_eq_none (by omega)
          rw [hy,decide_eq_false (fun h=>hk h.1),decide_eq_false (by simp)]
      rw [hb]
      exact h _ k (drewN_mod w q) k1 k2 k3
end Go.Oct
namespace Go.Oct
open Go Go.Vc Go.VrA Go.VrF
set_option maxRecDepth 100000
theorem take_eq (cur : Array Value) (xs : List Value) (m : Nat) (hm : xs.length = m) (h : ∀ j,j < m→cur[j]? = xs[j]?) : cur.toList.take (m * 1) = xs:=by
  rw [Nat.mul_one]
  apply List.ext_getElem?
  intro j
  rw [List.getElem?_take]
  by_cases hj : j < m
  · rw [if_pos hj,Array.getElem?_toList,h j hj]
  · rw [if_neg hj,List.getElem?_eq_none (by omega)]
theorem own_mk {w : World} {lo g n cap : Nat} {t : TypeId} {cur : Array Value} {xs : List Value} (hlo : lo≤g) (hg : w.heap[g]? = some (.cells cur t (0,0))) (hxl : xs.length = n) (hnc : n≤cap) (hcm : cap≤maxLen) (hcs : cur.size = cap) (h : ∀ j,j < n→cur[j]? = xs[j]?) :
    w.ownsRow lo t 1 (.slice (some ⟨g,0,none⟩) n cap) n xs :=
  ⟨by omega,.inr ⟨g,cap,cur,rfl,hlo,hg,hnc,hcm,by omega,take_eq cur xs n hxl h⟩⟩
def putL (i : Nat) (x : List UInt8) (l : List (List UInt8)) : List (List UInt8):=l.take i ++ x :: l.drop i
theorem putL_len {i : Nat} {x : List UInt8} {l : List (List UInt8)} (h : i≤l.length) : (putL i x l).length = l.length + 1:=by
  unfold putL
  rw [List.length_append,List.length_cons,List.length_take,List.length_drop]; omega
theorem putL_get {i : Nat} {x : List UInt8} {l : List (List UInt8)} (h : i≤l.length) (j : Nat) : (putL i x l)[j]? = if j < i then l[j]? else if j = i then some x else l[j - 1]?:=by
  unfold putL
  have hl : (l.take i).length = i:=by rw [List.length_take]; omega
  by_cases h1 : j < i
  · rw [if_pos h1,List.getElem?_append_left (by omega),List.getElem?_take,if_pos h1]
  · rw [if_neg h1,List.getElem?_append_right (by omega),hl]
    by_cases h2 : j = i
    · rw [if_pos h2,h2,Nat.sub_self]; rfl
    · rw [if_neg h2]
      obtain ⟨k,hk⟩ : ∃ k,j - i = k + 1:=⟨j - i - 1,by omega⟩
      rw [hk,List.getElem?_cons_succ,List.getElem?_drop]
      congr 1; omega
theorem stV_get (l : List (List UInt8)) (j : Nat) : (stV l)[j]? = (l[j]?).map fun x=>.string ⟨x.toArray⟩:=by simp [stV]
theorem stV_one (l : List (List UInt8)) : ∀ v ∈ stV l,v.oneCell' = true:=by
  intro v hv
  obtain ⟨x,_,rfl⟩:=List.mem_map.1 hv
  rfl
theorem insert_c (l : List (List UInt8)) (x : ByteArray) (i lo vb : Nat) (v : Value) (w : World) (K : Value→World→Prop) (ho : w.ownsRow lo 9 1 v l.length (stV l)) (hi : i≤l.length) (hl : l.length < 2 ^ 20) (hlo : lo≤w.heap.size)
    (hvb : w.heap[vb]? = some (.cells #[.string x] 9 (0,0))) (hne : ∀ k,v.ownBlock = some k→vb≠k)
    (h : ∀ w' v',Mod (fun k=>v.ownBlock = some k) w w'→w'.ownsRow lo 9 1 v' (l.length + 1) (stV (putL i x.data.toList l))→(∀ k,v'.ownBlock = some k→v.ownBlock = some k∨w.heap.size≤k)→K v' w') :
    Ok Proofs.Tryz.prog 155 #[v,.int .i64 i,.slice (some ⟨vb,0,none⟩) 1 1] w K:=by
  have hpl : (stV (putL i x.data.toList l)).length = l.length + 1:=by rw [stV_len,putL_len hi]
  have hx : (⟨x.data.toList.toArray⟩ : ByteArray) = x:=by cases x; simp
  have hvs : ∀ j v,[Value.string x][j]? = some v→w.cell? ⟨vb,0 + j,none⟩ = some v:=by
    intro j v hj
    have hj0 : j < 1:=by have:=(List.getElem?_eq_some_iff.1 hj).1; simpa using this
    have : j = 0:=by omega
    subst this
    simp only [World.cell?,hvb]
    simpa using hj
  have h1v : ∀ v ∈ [Value.string x],v.oneCell' = true:=fun v hv=>by rw [List.mem_singleton.1 hv]; rfl
  have hcsl:=stV_len l
  have grow : ∀ (need c : Nat),need≤2 ^ 21→need≤grownCap w need c 9∧grownCap w need c 9≤maxLen:=fun need c hn=>⟨grownCap_ge _ _ _ _,grownCap_le_maxLen _ _ _ _ (by simp only [maxLen]; omega)⟩
  have zget : ∀ n,(Builtin.zeroCells (Value.string ⟨#[]⟩).cells n).size = n:=fun n=>by rw [size_zeroCells]; show n * 1 = n; omega
  rcases ho.2 with ⟨rfl,h0⟩ | ⟨g,cap,cur0,hv,_⟩
  ·
    have hl0 : l = []:=List.eq_nil_of_length_eq_zero h0
    subst hl0
    have hi0 : i = 0:=by simpa using hi
    subst hi0
    refine ok_of_calls (by kernel_rfl) (Go.Proofs.Any2.slices_Insert_string_end_grow Go.Proofs.Tryz.laysNm222 none 0 0 vb 0 1 1 [] [.string x] w (by omega) (by omega) (by omega) (by omega) rfl rfl (fun _=>rfl) (fun a e=>by cases e) hvs h1v) ?_
    rintro e w' ⟨rfl,rfl⟩
    refine ⟨_,rfl, ?_⟩
    obtain ⟨g1,g2⟩:=grow 1 0 (by omega)
    have hmd : Mod (fun _=>False) w w.drew:=(Mod.refl _ _).drew
    refine h _ _ (((Mod.refl _ _).drew.alloc _)) ?_ (fun k hk=>.inr (by have : w.heap.size = k:=Option.some.inj hk; omega))
    refine own_mk hlo (get_alloc_new' _ _ _ rfl) hpl g1 g2 ?_ ?_
    · rw [Array.size_append,zget]
      show 1 + (grownCap w 1 0 9 - 1) = grownCap w 1 0 9
      omega
    · intro j hj
      have hj1 : j < 1:=hj
      have : j = 0:=by omega
      subst this
      rw [Array.getElem?_append,if_pos (by simp)]
      simp [stV,putL,hx]
  · subst hv
    have ho' : w.ownsRow lo 9 1 (.slice (some ⟨g,0,none⟩) (stV l).length cap) (stV l).length (stV l):=by rw [hcsl]; exact ho
    obtain ⟨cur,hg,hlog,hnc,hcm,hcs,hc⟩:=own_cell ho'
    rw [hcsl] at hnc
    have hvg : vb≠g:=hne g rfl
    have hcell : ∀ j v,(stV l)[j]? = some v→w.cell? ⟨g,0 + j,none⟩ = some v:=by
      intro j v hj
      rw [Nat.zero_add]
      simp only [World.cell?,hg]
      exact hc j v hj
    have hcj : ∀ j,j < l.length→cur[j]? = (stV l)[j]?:=by
      intro j hj
      obtain ⟨y,hy⟩ : ∃ y,(stV l)[j]? = some y:=⟨_,List.getElem?_eq_getElem (by omega)⟩
      rw [hy]; exact hc j y hy
    have hcm' : cap≤9223372036854775807:=by simp only [maxLen] at hcm; omega
    by_cases hin : i = l.length
    · subst hin
      by_cases hroom : l.length + 1≤cap
      · refine ok_of_calls (by kernel_rfl) (Go.Proofs.Any2.slices_Insert_string_end_room Go.Proofs.Tryz.laysNm222 g 0 l.length cap vb 0 1 1 [.string x] w (by omega) hroom hcm' rfl ?_ ?_ hvs h1v) ?_
        · intro j hj
          have : j = 0:=by omega
          subst this
          simp only [World.cell?,hg,Nat.zero_add,Nat.add_zero]
          simp [Array.getElem?_eq_getElem (show l.length < cur.size by omega)]
        · intro j hj
          simp [World.frozen?,hg]
        rintro e w' ⟨rfl,rfl⟩
        refine ⟨_,rfl, ?_⟩
        obtain ⟨cur',e1,e2,e3,e4,_,e6⟩:=setCells_heap g 9 (0,0) [.string x] (0 + l.length) w cur hg (by show 0 + l.length + 1≤_; omega)
        refine h _ _ (e6.mono fun k _ e=>by rw [e]; rfl) (own_mk hlog e1 hpl hroom hcm (by omega) ?_) (fun k hk=>.inl hk)
        intro j hj
        rw [stV_get,putL_get (Nat.le_refl _)]
        by_cases hjl : j < l.length
        · rw [if_pos hjl,e3 j (by omega),hcj j hjl,stV_get]
        · have : j = l.length:=by omega
          subst this
          rw [if_neg hjl,if_pos rfl]
          have:=e4 0 (by simp)
          rw [Nat.add_zero,Nat.zero_add] at this
          rw [this]; simp [hx]
      · refine ok_of_calls (by kernel_rfl) (Go.Proofs.Any2.slices_Insert_string_end_grow Go.Proofs.Tryz.laysNm222 (some ⟨g,0,none⟩) l.length cap vb 0 1 1 (stV l) [.string x] w (by omega) hnc (by omega) (by omega) hcsl rfl (fun e=>by cases e) ?_ hvs h1v) ?_
        · intro a ha j v hj
          obtain rfl:=Option.some.inj ha
          rw [Addr.add_lit]
          exact hcell j v hj
        rintro e w' ⟨rfl,rfl⟩
        refine ⟨_,rfl, ?_⟩
        obtain ⟨g1,g2⟩:=grow (l.length + 1) cap (by omega)
        refine h _ _ ((((Mod.refl (fun _=>False) _).drew.alloc _)).mono fun _ _ x=>x.elim) ?_ (fun k hk=>.inr (by have : w.heap.size = k:=Option.some.inj hk; omega))
        refine own_mk hlo (get_alloc_new' _ _ _ rfl) hpl g1 g2 ?_ ?_
        · rw [Array.size_append,zget,List.size_toArray,List.length_append,hcsl]
          show l.length + 1 + _ = _
          have : grownCap w (l.length + 1) cap (Go.Proofs.Tryz.laysNm222_ren.t 9) = grownCap w (l.length + 1) cap 9:=rfl
          rw [this]; omega
        · intro j hj
          rw [Array.getElem?_append,List.size_toArray,List.length_append,hcsl]
          have hjl : j < l.length + [Value.string x].length:=hj
          rw [if_pos hjl,List.getElem?_toArray,stV_get,putL_get (Nat.le_refl _),List.getElem?_append,hcsl]
          by_cases h1 : j < l.length
          · rw [if_pos h1,if_pos h1,stV_get]
          · have : j = l.length:=by omega
            subst this
            rw [if_neg h1,if_neg h1,if_pos rfl]
            simp [hx]
    · have hilt : i < l.length:=by omega
      by_cases hroom : l.length + 1≤cap
      · refine ok_of_calls (by kernel_rfl) (Go.Proofs.Any2.slices_Insert_string_shift Go.Proofs.Tryz.laysNm222 g 0 l.length cap i vb 0 1 1 (stV l) [.string x] w hilt (by omega) hroom hcm' hvg hcsl rfl hcell ?_ ?_ hvs (stV_one l) h1v 9 9 1 cur.size ?_ ?_ (by omega) ?_ ?_) ?_
        · intro j hj
          rw [Nat.zero_add]
          simp only [World.cell?,hg]
          simp [Array.getElem?_eq_getElem (show j < cur.size by omega)]
        · intro j hj
          simp [World.frozen?,hg]
        · simp [World.shape?,hvb]
        · simp [World.shape?,hg]
        · simp [World.frozen?,hvb]
        · simp [World.frozen?,hvb]
        rintro e w' ⟨rfl,rfl⟩
        refine ⟨_,rfl, ?_⟩
        have hmd : Mod (fun _=>False) w w.drew:=(Mod.refl _ _).drew
        have hgd:=hmd.keep hg id
        have hdl : ((stV l).drop i).length = l.length - i:=by rw [List.length_drop,hcsl]
        obtain ⟨cur1,e1,e2,e3,e4,_,e6⟩:=setCells_heap g 9 (0,0) ((stV l).drop i) (0 + (i + 1)) w.drew cur hgd (by rw [hdl]; omega)
        obtain ⟨cur2,f1,f2,f3,f4,f5,f6⟩:=setCells_heap g 9 (0,0) [.string x] (0 + i) _ cur1 e1 (by show 0 + i + 1≤_; omega)
        refine h _ _ (((hmd.mono fun _ _ x=>x.elim).trans (e6.trans f6)).mono fun k _ e=>by rw [e]; rfl) (own_mk hlog f1 hpl hroom hcm (by omega) ?_) (fun k hk=>.inl hk)
        intro j hj
        rw [stV_get,putL_get hi]
        by_cases h1 : j < i
        · rw [if_pos h1,f3 j (by omega),e3 j (by omega),hcj j (by omega),stV_get]
        · rw [if_neg h1]
          by_cases h2 : j = i
          · subst h2
            rw [if_pos rfl]
            have:=f4 0 (by simp)
            rw [Nat.add_zero,Nat.zero_add] at this
            rw [this]; simp [hx]
          · rw [if_neg h2,f5 j (by show 0 + i + 1≤j; omega)]
            have:=e4 (j - (i + 1)) (by rw [hdl]; omega)
            have ej : 0 + (i + 1) + (j - (i + 1)) = j:=by omega
            rw [ej,List.getElem?_drop] at this
            rw [this,stV_get]
            congr 2; omega
      · have hcap : cap = l.length:=by omega
        refine ok_of_calls (by kernel_rfl) (Go.Proofs.Any2.slices_Insert_string_grow Go.Proofs.Tryz.laysNm222 g 0 l.length cap i vb 0 1 1 (stV l) [.string x] w hilt (by omega) hnc (by omega) (by omega) hcsl rfl hcell hvs (stV_one l) h1v) ?_
        rintro e w' ⟨rfl,rfl⟩
        refine ⟨_,rfl, ?_⟩
        obtain ⟨g1,g2⟩:=grow (l.length + 1) cap (by omega)
        have eG : grownCap w (l.length + 1) cap (Go.Proofs.Tryz.laysNm222_ren.t 9) = grownCap w (l.length + 1) cap 9:=rfl
        rw [eG]
        revert g1 g2
        generalize grownCap w (l.length + 1) cap 9 = G
        intro g1 g2
        obtain ⟨big,hbig⟩ : ∃ big,big = ((stV l).take i).toArray ++ Builtin.zeroCells (Value.string ⟨#[]⟩).cells (l.length + 1 - i) ++ Builtin.zeroCells (Value.string ⟨#[]⟩).cells (G - (l.length + 1)):=⟨_,rfl⟩
        have hbs : big.size = G:=by
          rw [hbig,Array.size_append,Array.size_append,zget,zget,List.size_toArray,List.length_take,hcsl]; omega
        have hbj : ∀ j,j < i→big[j]? = (stV l)[j]?:=by
          intro j hj
          have h1 : ((stV l).take i).length = i:=by rw [List.length_take,hcsl]; omega
          rw [hbig,Array.getElem?_append,Array.size_append,List.size_toArray,h1,zget,if_pos (by omega),Array.getElem?_append,List.size_toArray,h1,if_pos hj,List.getElem?_toArray,List.getElem?_take,if_pos hj]
        rw [← hbig]
        have ha0 : (w.alloc (.cells big 9)).drew.heap[w.heap.size]? = some (.cells big 9 (0,0)):=get_alloc_new _ _
        have hm0 : Mod (fun _=>False) w (w.alloc (.cells big 9)).drew:=((Mod.refl _ _).alloc _).drew
        obtain ⟨cur1,e1,e2,e3,e4,e5,e6⟩:=setCells_heap w.heap.size 9 (0,0) [.string x] i _ big ha0 (by show i + 1≤_; omega)
        have hdl : ((stV l).drop i).length = l.length - i:=by rw [List.length_drop,hcsl]
        have hmd : Mod (fun _=>False) ((w.alloc (.cells big 9)).drew.setCells w.heap.size i [.string x]) ((w.alloc (.cells big 9)).drew.setCells w.heap.size i [.string x]).drew:=(Mod.refl _ _).drew
        obtain ⟨cur2,f1,f2,f3,f4,f5,f6⟩:=setCells_heap w.heap.size 9 (0,0) ((stV l).drop i) (i + 1) _ cur1 (hmd.keep e1 id) (by rw [hdl]; omega)
        refine h _ _ (((hm0.then e6 (fun k hk x=>by omega)).then hmd (fun _ _ x=>x)).then f6 (fun k hk x=>by omega) |>.mono fun _ _ x=>x.elim) (own_mk hlo f1 hpl g1 g2 (by omega) ?_) (fun k hk=>.inr (by have : w.heap.size = k:=Option.some.inj hk; omega))
        intro j hj
        rw [stV_get,putL_get hi]
        by_cases h1 : j < i
        · rw [if_pos h1,f3 j (by omega),e3 j (by omega),hbj j h1,stV_get]
        · rw [if_neg h1]
          by_cases h2 : j = i
          · subst h2
            rw [if_pos rfl,f3 j (by omega)]
            have:=e4 0 (by simp)
            rw [Nat.add_zero] at this
            rw [this]; simp [hx]
          · rw [if_neg h2]
            have:=f4 (j - (i + 1)) (by rw [hdl]; omega)
            have ej : i + 1 + (j - (i + 1)) = j:=by omega
            rw [ej,List.getElem?_drop] at this
            rw [this,stV_get]
            congr 2; omega
end Go.Oct
namespace Go.Oct
open Go Go.Vc Go.VrA Go.VrF
set_option maxRecDepth 100000
def insL (x : List UInt8) : List (List UInt8)→List (List UInt8)
  | []=>[x]
  | a :: r=>if a < x then a :: insL x r else if a = x then a :: r else x :: a :: r
theorem insL_pos (x : List UInt8) : ∀ (l : List (List UInt8)) (k : Nat),k≤l.length→(∀ t y,t < k→l[t]? = some y→y < x)→(∀ t y,k≤t→l[t]? = some y→¬ y < x) →
    insL x l = if l[k]? = some x then l else putL k x l:=by
  intro l
  induction l with
  | nil=>intro k hk _ _; have : k = 0:=by simpa using hk
         subst this; rfl
  | cons a r ih =>
    intro k hk h1 h2
    cases k with
    | zero =>
      have ha : ¬ a < x:=h2 0 a (Nat.le_refl _) rfl
      rw [insL,if_neg ha]
      simp only [Za,Option.some.injEq]
      by_cases e : a = x
      · rw [if_pos e,if_pos e]
      · rw [if_neg e,if_neg e]; rfl
    | succ k =>
      have ha : a < x:=h1 0 a (by omega) rfl
      rw [insL,if_pos ha,ih k (by rw [List.length_cons] at hk; omega) (fun t y ht hy=>h1 (t + 1) y (by omega) (by simpa using hy)) (fun t y ht hy=>h2 (t + 1) y (by omega) (by simpa using hy))]
      rw [List.getElem?_cons_succ]
      split
      · rfl
      · rfl
theorem insL_mem {x y : List UInt8} : ∀ {l : List (List UInt8)},y ∈ insL x l ↔ y = x∨y ∈ l:=by
  intro l
  induction l with
  | nil=>simp [insL]
  | cons a r ih =>
    unfold insL
    split
    · simp only [Zbu,ih]
      constructor
      · rintro (h | h | h) <;> simp [h]
      · rintro (h | h | h) <;> simp [h]
    · split
      · rename_i h; subst h; simp
      · simp
theorem insL_rise {x : List UInt8} : ∀ {l : List (List UInt8)},Rise l→Rise (insL x l):=by
  intro l
  induction l with
  | nil=>intro _; exact List.pairwise_singleton _ _
  | cons a r ih =>
    intro h
    have h':=List.pairwise_cons.1 h
    unfold insL
    split
    · rename_i ha
      refine List.pairwise_cons.2 ⟨fun y hy => ?_,ih h'.2⟩
      rcases insL_mem.1 hy with rfl | hy
      · exact ha
      · exact h'.1 y hy
    · split
      · exact h
      · rename_i h1 h2
        have hx : x < a:=by
          by_cases h : x < a
          · exact h
          · exact absurd (List.le_antisymm (List.not_lt.1 h) (List.not_lt.1 h1)) h2
        refine List.pairwise_cons.2 ⟨fun y hy => ?_,h⟩
        rcases List.mem_cons.1 hy with rfl | hy
        · exact hx
        · exact List.lt_trans hx (h'.1 y hy)
theorem insL_len {x : List UInt8} : ∀ {l : List (List UInt8)},(insL x l).length≤l.length + 1:=by
  intro l
  induction l with
  | nil=>simp [insL]
  | cons a r ih =>
    unfold insL
    split
    · simp only [Zai]; omega
    · split <;> simp only [Zai] <;> omega
def PoolAt (w : World) (pb lo : Nat) (v : Value) (L : List (List UInt8)) : Prop :=
  w.heap[pb]? = some (.cells #[v] 249 (0,0))∧w.ownsRow lo 9 1 v L.length (stV L)∧Rise L
theorem PoolAt.ne {w : World} {pb lo : Nat} {v : Value} {L : List (List UInt8)} (h : PoolAt w pb lo v L) : ∀ k,v.ownBlock = some k→k≠pb:=by
  rintro k hk rfl
  rcases h.2.1.2 with ⟨e,_⟩ | ⟨g,cap,cur,e,_,hg,_⟩
  · rw [e] at hk; cases hk
  · rw [e] at hk
    obtain rfl : g = k:=Option.some.inj hk
    rw [h.1] at hg
    have:=Obj.cells.inj (Option.some.inj hg)
    exact absurd this.2.1 (by decide)
theorem PoolAt.mod {w w' : World} {S : Nat→Prop} {pb lo : Nat} {v : Value} {L : List (List UInt8)} (h : PoolAt w pb lo v L) (hm : Mod S w w') (h1 : ¬ S pb) (h2 : ∀ k,v.ownBlock = some k→¬ S k) : PoolAt w' pb lo v L :=
  ⟨hm.keep h.1 h1,own_mod h.2.1 hm h2,h.2.2⟩
theorem own_form {w : World} {lo : Nat} {v : Value} {L : List (List UInt8)} (h : w.ownsRow lo 9 1 v L.length (stV L)) : ∃ a c,v = .slice a L.length c:=by
  rcases h.2 with ⟨rfl,h0⟩ | ⟨g,cap,cur,rfl,_⟩
  · exact ⟨none,0,by rw [h0]⟩
  · exact ⟨_,_,rfl⟩
theorem poolof_c (w : World) (K : Value→World→Prop) (h : ∀ w',Mod (fun _=>False) w w'→w.heap.size < w'.heap.size→PoolAt w' w.heap.size w.heap.size (.slice none 0 0) []→K (ptr w.heap.size) w') :
    Ok Proofs.Tryz.prog 86 #[.slice none 0 0] w K:=by
  refine F86.enter (args:=[.slice none 0 0]) (by simp) ?_
  unfold c86 r86
  simp only [ZB,insVc,ne_eq,reduceCtorEq,Zab,Zad,Zae,Za]
  refine F150.enter (args:=[.slice none 0 0]) (by simp) ?_
  unfold c150 r150
  simp only [ZB,endK,resK,packed,insVc,nilOf,pnilK,ne_eq,reduceCtorEq,Zab,Zad,Zae,Za,Zaa,Zag,Zbx]
  refine ok_of_calls (by kernel_rfl) (Go.Proofs.Tryz.slices_Sort_string_none none 0 w) ?_
  rintro e w' ⟨rfl,rfl⟩
  refine ⟨_,rfl, ?_⟩
  simp only [ZB,insVc,ne_eq,reduceCtorEq,Zad,Zae]
  refine F152.enter (args:=[.slice none 0 0]) (by simp) ?_
  unfold c152 r152
  simp only [ZB,insVc,iopK,iopV,lenLK,ne_eq,reduceCtorEq,Zab,Za]
  refine h _ ((Mod.refl _ _).alloc _) (by rw [size_alloc]; omega) ⟨get_alloc_new _ _,⟨rfl,.inl ⟨rfl,rfl⟩⟩,List.Pairwise.nil⟩
theorem poolfind_c (L : List (List UInt8)) (x : ByteArray) (pb lo : Nat) (v : Value) (w : World) (K : Value→World→Prop) (hp : PoolAt w pb lo v L) (hl : L.length < 2 ^ 20)
    (h : ∀ w' k,Mod (fun _=>False) w w'→k≤L.length→(∀ t y,t < k→L[t]? = some y→y < x.data.toList)→(∀ t y,k≤t→L[t]? = some y→¬ y < x.data.toList)→K (.tuple #[.int .i64 (k : Nat),.bool (decide (L[k]? = some x.data.toList))]) w') :
    Ok Proofs.Tryz.prog 154 #[ptr pb,.string x] w K:=by
  refine F154.enter (args:=[ptr pb,.string x]) (by simp) ?_
  unfold c154 r154
  simp only [ZB,insVc,load1K,nilK,nilOf,pnilK,faddrK,ne_eq,Nat.reduceEqDiff,reduceCtorEq,Zab,Zad,Zae,Za,Zaf,Zah,Zag,Zbq,hp.1]
  refine bsearch_c L x lo v w _ hp.2.1 hp.2.2 hl ?_
  intro w' k h1 h2 h3 h4
  simp only [ZB,endK,resK,packed,insVc,extK,ne_eq,Nat.reduceEqDiff,Za,Zaf,Zah,Zaa,Zap]
  exact h w' k h1 h2 h3 h4
theorem pooladd_c (L : List (List UInt8)) (x : ByteArray) (pb lo : Nat) (v : Value) (w : World) (K : Value→World→Prop) (hp : PoolAt w pb lo v L) (hl : L.length < 2 ^ 20) (hlo : lo≤w.heap.size)
    (h : ∀ w' v' b,Mod (fun k=>k = pb∨v.ownBlock = some k) w w'→PoolAt w' pb lo v' (insL x.data.toList L)→(∀ k,v'.ownBlock = some k→v.ownBlock = some k∨w.heap.size≤k)→K (.bool b) w') :
    Ok Proofs.Tryz.prog 89 #[ptr pb,.string x] w K:=by
  refine F89.enter (args:=[ptr pb,.string x]) (by simp) ?_
  unfold c89 r89
  simp only [ZB,insVc,ne_eq,Nat.reduceEqDiff,reduceCtorEq,Zab,Zad,Zae,Za,Zaf]
  refine poolfind_c L x pb lo v w _ hp hl ?_
  intro w1 k hm1 k1 k2 k3
  have hins:=insL_pos x.data.toList L k k1 k2 k3
  have hp1:=hp.mod hm1 id (fun _ _=>id)
  simp only [ZB,insVc,pickK,nilOf,pnilK,extK,ne_eq,Nat.reduceEqDiff,reduceCtorEq,Zab,Za,Zaf,Zah,Zag,Zbq]
  by_cases e : L[k]? = some x.data.toList
  · rw [if_pos e] at hins
    rw [decide_eq_true e]
    simp only [ZB,endK,resK,packed,insVc,Zaa]
    refine h w1 v _ (hm1.mono fun _ _ x=>x.elim) (by rw [hins]; exact hp1) (fun _ h=>.inl h)
  · rw [if_neg e] at hins
    rw [decide_eq_false e]
    simp only [ZB,insVc,load1K,nilK,faddrK,fillL,buildSK,Value.cells,ne_eq,Nat.reduceEqDiff,Nat.reduceLeDiff,reduceCtorEq,Zab,Zad,Zae,Za,Zaf,Zah,Zak,Zai,Zaj,Zbc,Zbd,Zba,Zbb,Zal,Zam,Zbf,Zac,hp1.1]
    refine callK_gen ?_
    intro w2 hw2
    have hm2 : Mod (fun _=>False) w1 w2:=by rw [hw2]; exact (Mod.refl _ _).alloc _
    have o2 : w2.heap[w1.heap.size]? = some (.cells #[.string x] 9 (0,0)):=by rw [hw2]; simp only [Zac,get_alloc]
    clear hw2
    have hp2:=hp1.mod hm2 id (fun _ _=>id)
    have hs1:=hm1.size
    have hs2:=hm2.size
    refine insert_c L x k lo w1.heap.size v w2 _ hp2.2.1 k1 hl (by omega) o2 ?_ ?_
    · intro g hg he
      have : g < w1.heap.size:=by
        rcases hp1.2.1.2 with ⟨e,_⟩ | ⟨g',cap,cur,e,_,hg',_⟩
        · rw [e] at hg; cases hg
        · rw [e] at hg
          obtain rfl : g' = g:=Option.some.inj hg
          exact lt_of_get hg'
      omega
    · intro w3 v' hm3 ho3 hb3
      have hpb:=hm3.keep hp2.1 (fun x=>hp2.ne _ x rfl)
      have hs3:=hm3.size
      have hpl:=lt_of_get hp2.1
      have hne' : ∀ k,v'.ownBlock = some k→¬ k = pb:=by
        intro k hk
        rcases hb3 k hk with y | y
        · exact hp2.ne k y
        · omega
      simp only [ZB,endK,resK,packed,insVc,storeK,nilK,faddrK,isPlain,ne_eq,Nat.reduceEqDiff,Nat.reduceLT,Nat.reduceLeDiff,Zak,Zai,Zaj,Zal,Zam,Zaa,Zao,hpb]
      have hpl' : isPlain v' = true:=own_plain ho3
      refine ⟨hpl', ?_⟩
      have hm4 : Mod (fun k=>k = pb) w3 (Vc.set w3 pb (.cells #[v'] 249 (0,0))):=(Mod.refl _ _).set (.inr rfl)
      refine h _ v' true ?_ ⟨get_set_same _ _ _ (lt_of_get hpb), ?_, ?_⟩ ?_
      · exact (((hm1.trans hm2).mono fun _ _ x=>x.elim).trans (hm3.mono fun _ _ x=>.inr x)).trans (hm4.mono fun _ _ x=>.inl x)
      · rw [hins,putL_len k1]
        exact own_mod ho3 hm4 hne'
      · exact insL_rise hp.2.2
      · intro k hk
        rcases hb3 k hk with y | y
        · exact .inl y
        · exact .inr (by omega)
theorem poollen_c (L : List (List UInt8)) (pb lo : Nat) (v : Value) (w : World) (K : Value→World→Prop) (hp : PoolAt w pb lo v L) (h : K (.int .i64 L.length) w) : Ok Proofs.Tryz.prog 232 #[ptr pb] w K:=by
  refine F232.enter (args:=[ptr pb]) (by simp) ?_
  unfold c232 r232
  obtain ⟨a,c,rfl⟩:=own_form hp.2.1
  simp only [ZB,endK,resK,packed,insVc,load1K,nilK,nilOf,pnilK,faddrK,lenLK,ne_eq,reduceCtorEq,Zab,Za,Zah,Zaa,Zag,Zbq,hp.1]
  exact h
def atL (L : List (List UInt8)) (i : Nat) : ByteArray:=⟨((L[i]?).getD []).toArray⟩
theorem poolat_c (L : List (List UInt8)) (i pb lo : Nat) (v : Value) (w : World) (K : Value→World→Prop) (hp : PoolAt w pb lo v L) (h : K (.tuple #[.string (atL L i),.bool (decide (i < L.length))]) w) :
    Ok Proofs.Tryz.prog 201 #[ptr pb,.int .i64 (i : Nat)] w K:=by
  refine F201.enter (args:=[ptr pb,.int .i64 (i : Nat)]) (by simp) ?_
  unfold c201 r201
  have d0 : ¬ (i : Int) < 0:=by omega
  simp only [ZB,insVc,iopK,iopV,ne_eq,Nat.reduceEqDiff,reduceCtorEq,Zab,Zad,Zae,Za,Zaf,d0]
  refine poollen_c L pb lo v w _ hp ?_
  by_cases hi : i < L.length
  · have d1 : ¬ (L.length : Int)≤(i : Int):=by omega
    have d2 : (i : Int) < (L.length : Int):=by omega
    rw [decide_eq_true hi] at h
    rcases hp.2.1.2 with ⟨e,h0⟩ | ⟨g,cap,cur,rfl,_,hg,hnc,_,hs,hc⟩
    · omega
    · have hx : cur[i]? = some (.string (atL L i)):=by
        have h1 : (cur.toList.take (L.length * 1))[i]? = some (.string (atL L i)):=by
          rw [hc,stV_get]
          simp [atL,List.getElem?_eq_getElem hi]
        rw [List.getElem?_take,if_pos (by omega)] at h1
        simpa using h1
      have hnn : (0 : Int)≤(i : Int):=by omega
      simp only [ZB,endK,resK,packed,insVc,pickK,load1K,nilK,iopK,iopV,faddrK,iaddrK,ne_eq,Nat.reduceEqDiff,reduceCtorEq,Zab,Za,Zaf,Zah,Zaa,Zap,Zag,Zax,Zbh,d1,hp.1,d2,hg,hx,hnn]
      exact h
  · have d1 : (L.length : Int)≤(i : Int):=by omega
    rw [decide_eq_false hi] at h
    have : atL L i = ⟨#[]⟩:=by simp [atL,List.getElem?_eq_none (show L.length≤i by omega)]
    rw [this] at h
    simp only [ZB,endK,resK,packed,insVc,pickK,iopK,iopV,ne_eq,Nat.reduceEqDiff,reduceCtorEq,Zaa,Zap,Zag,d1]
    exact h
theorem rise_at {L : List (List UInt8)} (hr : Rise L) {i k : Nat} {x : List UInt8} (hx : L[i]? = some x) (hk : k≤L.length) (h2 : ∀ t y,t < k→L[t]? = some y→y < x) (h3 : ∀ t y,k≤t→L[t]? = some y→¬ y < x) : k = i:=by
  have hil:=(List.getElem?_eq_some_iff.1 hx).1
  rcases Nat.lt_trichotomy k i with h | h | h
  · have hy : L[k]? = some (L[k]'(by omega)):=List.getElem?_eq_getElem _
    have hxi : L[i]'hil = x:=(List.getElem?_eq_some_iff.1 hx).2
    have:=List.pairwise_iff_getElem.1 hr k i (by omega) hil h
    rw [hxi] at this
    exact absurd this (h3 k _ (Nat.le_refl _) hy)
  · exact h
  · exact absurd (h2 i x h hx) (List.lt_irrefl _)
theorem poolall1_c (c1 pb lo : Nat) (v : Value) (L : List (List UInt8)) (hl : L.length < 2 ^ 20) :
    IterP Proofs.Tryz.prog 157 [ptr c1] (wordsV L) (fun u=>u.heap[c1]? = some (.cells #[ptr pb] 174 (0,0))∧PoolAt u pb lo v L):=by
  intro y _ J Jx w hJ hF hS hSx hy
  refine F157.enter (args:=[y,ptr c1]) (by simp) ?_
  unfold c157 r157
  obtain ⟨e1,hp⟩:=hF 0 _ _ hJ
  simp only [ZB,insVc,load1K,ne_eq,Nat.reduceEqDiff,reduceCtorEq,Zab,Zad,Zae,Za,Zaf,Zah,e1]
  refine F158.enter (args:=[ptr pb,.int .i64 ((0 : Nat) : Int),y]) (by simp) ?_
  unfold c158 r158
  have hlen : (wordsV L).length = L.length:=by simp [wordsV]
  simp only [ZB,insVc,ne_eq,Nat.reduceEqDiff,Zab,Zad,Zae,Za,Zaf]
  refine poolat_c L 0 pb lo v w _ hp ?_
  simp only [ZB,insVc,extK,ne_eq,Nat.reduceEqDiff,Za,Zaf,Zah]
  refine vc_loop (fun mm ρ ds u => ∃ (i : Nat) (X : Nat→Prop),mm = L.length - i∧i≤L.length∧ρ 0 = ptr pb∧ρ 1 = .int .i64 (i : Nat)∧ρ 2 = y∧ρ 6 = .string (atL L i)∧ρ 7 = .bool (decide (i < L.length))∧ds = []∧J i X u∧(∀ k,X k→w.heap.size≤k∧k < u.heap.size)∧w.heap.size≤u.heap.size) (L.length - 0) ?_ ?_
  · refine ⟨0,fun _=>False,rfl,Nat.zero_le _, ?_⟩
    simp only [ZB,ne_eq,Nat.reduceEqDiff,reduceCtorEq,Zab,Za,Zaf]
    exact ⟨hJ,fun k hk=>hk.elim,Nat.le_refl _⟩
  · rintro mm ρ ds u ⟨i,X,rfl,hi,g0,g1,g2,g6,g7,rfl,hJu,hX,hsu⟩
    by_cases hil : i < L.length
    · rw [decide_eq_true hil] at g7
      obtain ⟨x,hx⟩ : ∃ x,L[i]? = some x:=⟨_,List.getElem?_eq_getElem hil⟩
      have hat : atL L i = ⟨x.toArray⟩:=by simp [atL,hx]
      have hr : (wordsV L)[i]? = some [.string ⟨x.toArray⟩]:=by simp [wordsV,hx]
      have hyy:=hy i (by omega) X u hJu hX hsu
      rw [hr] at hyy
      rw [hat] at g6
      simp only [ZB,insVc,callvK,ne_eq,Nat.reduceEqDiff,Zad,Zae,g2,g6,g7]
      refine callvK_mono hyy ?_
      rintro b u1 ⟨⟨q1,q2⟩,⟨rfl,q3⟩ | ⟨rfl,q3⟩⟩
      · obtain ⟨_,hp1⟩:=hF _ _ _ q3
        simp only [ZB,insVc,notK,ne_eq,Nat.reduceEqDiff,reduceCtorEq,Zad,Zae,g0,g6]
        refine poolfind_c L _ pb lo v u1 _ hp1 hl ?_
        intro u2 k hm2 k1 k2 k3
        have hki : k = i:=rise_at hp1.2.2 (by simpa using hx) k1 k2 k3
        subst hki
        have hxx : L[k]? = some (⟨x.toArray⟩ : ByteArray).data.toList:=by simpa using hx
        have hJ2:=hS _ _ X u1 u2 q3 (hm2.mono fun _ _ x=>x.elim) (fun k hk=>.inl hk)
        have hw1 : IntKind.i64.wrap ((k : Int) + 1) = ((k + 1 : Nat) : Int):=by rw [wrap_i64 _ (by omega)]; omega
        have hms:=hm2.size
        simp only [ZB,insVc,iopK,iopV,extK,ne_eq,Nat.reduceEqDiff,reduceCtorEq,Zad,Zae,Za,Zaf,Zah,hxx,g0,hw1]
        refine poolat_c L (k + 1) pb lo v u2 _ (hF _ _ _ hJ2).2 ?_
        simp only [ZB,insVc,extK,ne_eq,Nat.reduceEqDiff,reduceCtorEq,Za,Zaf,Zah,g0,g2]
        refine ⟨L.length - (k + 1),by omega,k + 1,X,rfl,by omega, ?_⟩
        simp only [true_and]
        exact ⟨hJ2,fun k hk=>⟨(hX k hk).1,by have:=(hX k hk).2; omega⟩,by omega⟩
      · simp only [ZB,endK,resK,packed,insVc,notK]
        exact ⟨Nat.le_trans hsu q1,X,fun k hk=>⟨(hX k hk).1,Nat.lt_of_lt_of_le (hX k hk).2 q1⟩,.inr q3⟩
    · rw [decide_eq_false hil] at g7
      simp only [ZB,endK,resK,packed,insVc,g7]
      have : i = L.length:=by omega
      rw [hlen,← this]
      exact ⟨hsu,X,hX,.inl hJu⟩
theorem poolall_c (pb lo : Nat) (v : Value) (L : List (List UInt8)) (w : World) (K : Value→World→Prop) (hp : PoolAt w pb lo v L) (hl : L.length < 2 ^ 20)
    (h : ∀ w' c1,Mod (fun _=>False) w w'→PoolAt w' pb lo v L→w'.heap[c1]? = some (.cells #[ptr pb] 174 (0,0)) →
      IterX Proofs.Tryz.prog 157 [ptr c1] (wordsV L) (fun _=>False) (fun _=>True) (fun u=>u.heap[c1]? = some (.cells #[ptr pb] 174 (0,0))∧PoolAt u pb lo v L)→K (.func (.func 157) #[] #[ptr c1]) w') :
    Ok Proofs.Tryz.prog 91 #[ptr pb] w K:=by
  refine F91.enter (args:=[ptr pb]) (by simp) ?_
  unfold c91 r91
  simp only [ZB,endK,resK,packed,insVc,Value.cells,ne_eq,Nat.reduceEqDiff,Zab,Zad,Zae,Za,Zaa]
  have hm : Mod (fun _=>False) w (w.alloc (.cells #[ptr pb] 174)):=(Mod.refl _ _).alloc _
  exact h _ w.heap.size hm (hp.mod hm id (fun _ _=>id)) (get_alloc_new _ _) (IterX.of (poolall1_c _ pb lo v L hl))
theorem poolcol_c (pb lo c1 : Nat) (v : Value) (L : List (List UInt8)) (w : World) (K : Value→World→Prop) (hp : PoolAt w pb lo v L) (h1 : w.heap[c1]? = some (.cells #[ptr pb] 174 (0,0))) (hl : L.length < 2 ^ 20)
    (h : ∀ w' v',Mod (fun _=>False) w w'→w'.ownsRow w.heap.size 9 1 v' L.length (stV L)→K v' w') :
    Ok Proofs.Tryz.prog 90 #[.func (.func 157) #[] #[ptr c1]] w K :=
  collect_c _ [ptr c1] L (fun _=>False) (fun _=>True) _ w K (IterX.of (poolall1_c c1 pb lo v L hl)) (fun k hk=>hk.elim) (fun _ _=>trivial) (fun u hm=>⟨hm.keep h1 id,hp.mod hm id (fun _ _=>id)⟩) hl (fun w' v hm ho=>h w' v hm ho)
end Go.Oct
namespace Go.Oct
open Go Go.Vc Go.VrA Go.VrF
set_option maxRecDepth 100000
structure Bi where
  ex : ByteArray
  kind : Int
  key : ByteArray
  q : ByteArray
def Bi.cells (b : Bi) : List Value:=[.string b.ex,.int .i64 b.kind,.string b.key,.string b.q]
def Bi.val (b : Bi) : Value:=.agg b.cells.toArray
def b0 : Bi:=⟨e0,0,e0,e0⟩
abbrev zb : Array Value:=#[.string ⟨#[]⟩,.int .i64 0,.string ⟨#[]⟩,.string ⟨#[]⟩]
def Bi.good (b : Bi) : Prop:=b.ex.size < 4294967281∧b.key.size < 4294967281∧b.q.size < 4294967281
def Th.binding (t : Th) : Bi:=⟨t.bx,t.bkind,t.bkey,t.bq⟩
def kindN (k : Int) : Nat:=(IntKind.u64.wrap k).toNat
theorem kindN_eq (k : Int) : IntKind.u64.wrap k = (kindN k : Int):=by unfold kindN; rw [IntKind.wrap_u64]; omega
theorem kindN_lt (k : Int) : kindN k < 2 ^ 64:=by unfold kindN; rw [IntKind.wrap_u64]; omega
def bindP (b : Bi) : List Pt:=[str b.ex,num' (kindN b.kind),str b.key,str b.q]
def bindK (b : Bi) : ByteArray × Int:=keyL (str ⟨#[98]⟩ :: bindP b) []
theorem bindP_good (b : Bi) (h : b.good) : ∀ p ∈ bindP b,p.good:=by
  intro p hp
  simp only [bindP,Zbu,Zbv,or_false] at hp
  rcases hp with rfl | rfl | rfl | rfl
  · exact ⟨by simp [str],h.1⟩
  · exact ⟨kindN_lt _,by simp [num',e0,ByteArray.size]⟩
  · exact ⟨by simp [str],h.2.1⟩
  · exact ⟨by simp [str],h.2.2⟩
theorem bind_c (b : Bi) (m : Int) (w : World) (K : Value→World→Prop) (hg : Gl m w) (hb : b.good)
    (h : ∀ w',Mod (fun _=>False) w w'→K (.tuple #[.string (bindK b).1,.int .i64 (bindK b).2]) w') :
    Ok Proofs.Tryz.prog 82 #[b.val] w K:=by
  refine F82.enter (args:=[b.val]) (by simp) ?_
  unfold c82 r82
  simp only [ZB,insVc,Value.cells,Zab,Za,Bi.val,Bi.cells]
  refine vc_gen2 ?_
  intro w1 hw1
  have hm1 : Mod (fun _=>False) w w1:=by rw [hw1]; exact (Mod.refl _ _).alloc _
  have o1 : w1.heap[w.heap.size]? = some (.cells #[.string b.ex,.int .i64 b.kind,.string b.key,.string b.q] 64 (0,0)):=by rw [hw1]; simp only [Zac,get_alloc]
  clear hw1
  refine draw_e (by kernel_rfl) (by kernel_rfl) (by kernel_rfl) (by kernel_rfl) ?_
  simp only [ZB,endK,resK,packed,insVc,load1K,convK,faddrK,extK,fillL,buildSK,Value.cells,ne_eq,Nat.reduceEqDiff,Nat.reduceAdd,Nat.reduceLeDiff,Zad,Zae,Za,Zaf,Zah,Zak,Zai,Zaj,Zaa,Zap,Zac,Zag,pureI,kindI,loadI,vcE_nil,vcE_cons,stepE_pure,stepE_load,stepE_step,o1]
  refine str_c b.ex w1.drew _ ?_
  intro w2 hm2'
  have hm2:=((Mod.refl (fun _=>False) w1).drew).trans hm2'
  simp only [Nat.reduceAdd,Nat.reduceLeDiff,Zak,Zai,Zaj,Zbc,Zbd,Zba,Zbb,Zal,Zam,Zan,Zbf,and_true,Zac,Nat.zero_add,Pt.val,Pt.cells,str,kindN_eq]
  refine ⟨hm2, ?_⟩
  refine num_c (kindN b.kind) w2 _ ?_
  intro w3 hm3
  have hm13:=hm2.trans hm3
  simp only [Nat.reduceAdd,Nat.reduceLeDiff,Zak,Zai,Zaj,Zbc,Zbd,Zba,Zbb,Zal,Zam,Zan,Zbf,and_true,Zac,Nat.zero_add,Nat.add_zero,Pt.val,Pt.cells,num']
  refine ⟨hm13, ?_⟩
  refine str_c b.key w3 _ ?_
  intro w4 hm4
  have hm14:=hm13.trans hm4
  simp only [Nat.reduceAdd,Nat.reduceLeDiff,Zak,Zai,Zaj,Zbc,Zbd,Zba,Zbb,Zal,Zam,Zan,Zbf,and_true,Zac,Nat.zero_add,Nat.add_zero,Pt.val,Pt.cells,str]
  refine ⟨hm14, ?_⟩
  refine str_c b.q w4 _ ?_
  intro w5 hm5
  have hm15:=hm14.trans hm5
  simp only [Nat.reduceAdd,Zak,Zai,Zaj,Zbc,Zbd,Zba,Zbb,Zal,Zam,Zan,Zbf,Zac,Nat.zero_add,Nat.add_zero,Pt.val,Pt.cells,str]
  have hm6:=hm15.alloc (.cells ((bindP b).flatMap Pt.cells).toArray 118)
  refine ⟨hm15,hm6, ?_⟩
  refine key_c ⟨#[98]⟩ (bindP b) _ m _ _ (hg.mod (hm1.trans hm6) id) (.inr (pts_lit w5 (bindP b) _ rfl)) (by simp [bindP]) (by decide) (bindP_good b hb) ?_
  intro w7 hm7
  simp only [loadV_some,Za,Zaf,Zah]
  exact ⟨hm6.trans hm7,h w7 ((hm1.trans hm6).trans hm7)⟩
def bgot (r : Pr) : Bi × Int :=
  if r.2≠0 then (b0,r.2) else
  if (parseR ⟨r.1.1.toArray⟩).2≠0 then (b0,(parseR ⟨r.1.1.toArray⟩).2) else ((parseR ⟨r.1.1.toArray⟩).1.binding,0)
def thingsB : List Pr→List (Bi × Int)
  | []=>[]
  | r :: l=>if (bgot r).2≠0 then [(b0,(bgot r).2)] else ((bgot r).1,0) :: thingsB l
def biV (l : List (Bi × Int)) : List (List Value):=l.map fun r=>[r.1.val,.int .i64 r.2]
theorem bound_c (t : Th) (v : ByteArray) (z : Int) (hz : z = 0) (w : World) (K : Value→World→Prop)
    (h : ∀ w',Mod (fun _=>False) w w'→K (.tuple #[t.binding.val,.int .i64 z]) w') :
    Ok Proofs.Tryz.prog 81 #[t.val,.string v] w K:=by
  refine VrA.F81.enter (args:=[t.val,.string v]) (by simp) ?_
  unfold VrA.c81 VrA.r81
  subst hz
  simp only [ZB,endK,resK,resN,packed,insVc,loadNK,storeNK,setMany,faddrK,isPlain,Value.cells,ne_eq,Nat.reduceEqDiff,Nat.reduceAdd,Nat.reduceLeDiff,Zab,Za,Zak,Zai,Zaj,Zal,Zam,Zan,Zaa,Zap,Zac,Zag,Zb,Zaz,Zav,Zbt,Zar,Zay,Zaw,Nat.reduceSub,Zas,Zat,Zau,Zbe,Zao,get_alloc,Zaq,Nat.reduceAdd,Zbj,Zbl,Nat.reduceEqDiff,Zbi,Th.val,Th.cells]
  exact h _ ((((Mod.refl _ _).alloc _).alloc _).set (.inl (by omega)))
def ThCellsB (u : World) (c1 c2 c3 c4 : Nat) (sort : ByteArray) (vl : Value) (t : TypeId) (v : Value) : Prop :=
  u.heap[c1]? = some (.cells #[.string sort] 9 (0,0))∧u.heap[c2]? = some (.cells #[vl] 197 (0,0)) ∧
  u.heap[c3]? = some (.cells #[.iface t v] 125 (0,0))∧u.heap[c4]? = some (.cells #[.func (.func 81) #[] #[]] 168 (0,0))
theorem thingsB1_c {σ : Type} (St : Sto σ) (s : σ) (hpure : PureRng St s) (sort : ByteArray) (l : List Pt) (vl : Value) (c1 c2 c3 c4 : Nat) (m : Int)
    (hl : l.length < 2 ^ 20) (hs : sort.size < 4294967281) (hp : ∀ p ∈ l,p.good) :
    IterP Proofs.Tryz.prog 147 [ptr c1,ptr c2,ptr c3,ptr c4] (biV (thingsB (St.under s sort l))) (fun u=>St.At s u∧Gl m u∧IsArg u vl l∧ThCellsB u c1 c2 c3 c4 sort vl St.t St.v):=by
  rintro y ⟨fy,ya,yb,hyf⟩ J Jx w hJ hF hS hSx hy
  refine F147.enter (args:=[y,ptr c1,ptr c2,ptr c3,ptr c4]) (by simp) ?_
  unfold c147 r147
  obtain ⟨hA,hg,hvl,e1,e2,e3,e4⟩:=hF 0 _ _ hJ
  have q1:=lt_of_get e1
  have q2:=lt_of_get e2
  have q1' : ¬ c1 = w.heap.size + 1:=by omega
  have q2' : ¬ c2 = w.heap.size + 1:=by omega
  simp only [ZB,insVc,load1K,Value.cells,ne_eq,Nat.reduceEqDiff,Zab,Zad,Zae,Za,Zaf,Zah,Zag,get_alloc,Nat.reduceEqDiff,e1,e2,Nat.ne_of_lt q1,Nat.ne_of_lt q2,q1',q2']
  refine callK_gen ?_
  intro w1 hw1
  have hm1 : Mod (fun _=>False) w w1:=by rw [hw1]; exact ((Mod.refl _ _).alloc _).alloc _
  have b1 : w1.heap[w.heap.size]? = some (.cells #[y] 243 (0,0)):=by rw [hw1]; simp only [Zac,Zag,size_alloc,get_alloc,size_alloc,Zbl,Zbi,hyf]
  have n1 : w1.heap[w.heap.size + 1]? = some (.cells zb 64 (0,0)):=by rw [hw1]; simp only [Zac,Zag,size_alloc,get_alloc,size_alloc,Zbj,Zbi]
  clear hw1
  have hvl1 : IsArg w1 vl l:=by
    rcases hvl with h | ⟨g,cap,cur,h1,h2,h3⟩
    · exact .inl h
    · exact .inr ⟨g,cap,cur,h1,hm1.keep h2 id,h3⟩
  refine under_c sort l vl m w1 _ (hg.mod hm1 id) hvl1 hl hs hp ?_
  intro w2 hm2
  have hm12:=hm1.trans hm2
  have hz:=hm12.size
  simp only [ZB,insVc,sopK,sopV,extK,ne_eq,Nat.reduceEqDiff,Za,Zaf,Zah]
  unfold Sto.under at hy ⊢
  refine condP_split ?_ ?_
  · intro hc
    simp only [ZB,endK,resK]
    rw [if_pos hc]
    exact ⟨hz,fun k=>w.heap.size≤k∧k < w2.heap.size,fun k hk=>hk,.inl (hS 0 _ _ w w2 hJ (hm12.mono fun _ _ x=>x.elim) (fun k hk=>.inr hk))⟩
  intro hc
  rw [if_neg (by rw [hc]; exact Bool.false_ne_true)] at hy ⊢
  have e3':=hm12.keep e3 id
  simp only [ZB,insVc,load1K,invK,ne_eq,Nat.reduceEqDiff,Zab,Zad,Zae,Za,Zaf,Zah,e3']
  generalize (underK sort l).1 = from' at *
  generalize (underK sort l).2 = to' at *
  refine hpure _ _ w2 _ (St.keep0 hA hm12) ?_
  intro w4 gf cap hm4 it
  have hm14:=hm12.trans hm4
  have hz4:=hm4.size
  have b4:=(hm2.trans hm4).keep b1 id
  have n4:=(hm2.trans hm4).keep n1 id
  revert it hy
  generalize (St.rng s from' to').1 = R
  intro hy it
  simp only [ZB]
  let XO : (Nat→Prop)→Nat→Prop:=fun X k=>(w.heap.size≤k∧k < w4.heap.size + 2)∨X k
  have hXO : ∀ (X X' : Nat→Prop) (a b : World),(∀ k,X' k→X k∨a.heap.size≤k∧k < b.heap.size)→∀ k,XO X' k→XO X k∨a.heap.size≤k∧k < b.heap.size:=by
    rintro X X' a b h k (hk | hk)
    · exact .inl (.inl hk)
    · exact (h k hk).elim (fun x=>.inl (.inr x)) .inr
  have hfin : ∀ (u : World) (X : Nat→Prop) (u' : World),w4.heap.size + 2≤u.heap.size→(∀ k,X k→w4.heap.size≤k∧k < u.heap.size)→J (biV (thingsB R)).length (XO X) u∨Jx (XO X) u→Mod (fun k=>k = w4.heap.size) u u' →
      w.heap.size≤u'.heap.size∧∃ X,(∀ k,X k→w.heap.size≤k∧k < u'.heap.size)∧(J (biV (thingsB R)).length X u'∨Jx X u'):=by
    intro u X u' h1 h2 h3 h4
    have h5:=h4.size
    have hb : ∀ k,XO X k→w.heap.size≤k∧k < u'.heap.size:=by
      rintro k (hk | hk)
      · omega
      · have:=h2 k hk; omega
    have hm : Mod (XO X) u u':=h4.mono fun k _ hk=>.inl (by omega)
    exact ⟨by omega,XO X,hb,h3.imp (fun h=>hS _ _ _ u u' h hm (fun k hk=>.inl hk)) (fun h=>hSx _ _ u u' h hm (fun k hk=>.inl hk))⟩
  refine range_iter (by kernel_rfl) (by kernel_rfl) (by kernel_rfl) (gf:=gf) (cap:=cap) (by simp only [ZB]) it
    (fun i X u=>(∃ pre : List (Bi × Int),pre.length = i∧thingsB R = pre ++ thingsB (R.drop i))∧J i (XO X) u∧Kept w.heap.size w4 u)
    (fun c X u=>c = .ret∧(J (biV (thingsB R)).length (XO X) u∨Jx (XO X) u)) ?_ ?_ ?_ ?_ ?_ ?_ ?_ ?_
  · intro X w' hm hsz hX
    refine ⟨⟨[],rfl,by simp⟩,hS 0 _ _ w w' hJ ((hm14.trans hm).mono fun _ _ x=>x.elim) ?_,(Kept.refl _ _).keep hm (fun _ _ _=>id)⟩
    rintro k (hk | hk)
    · exact .inr ⟨hk.1,by omega⟩
    · have:=hX k hk
      exact .inr (by omega)
  · rintro i X u ⟨_,h1,h2⟩
    exact ⟨(hF _ _ _ h1).1,h2.1,fun k hk hk'=>h2.2 k (by omega) hk'⟩
  · rintro i X X' a b ⟨h0,h1,h2⟩ hX ha hm hx
    exact ⟨h0,hS i _ _ a b h1 (hm.mono fun _ _ x=>.inr x) (hXO X X' a b hx),h2.keep hm (fun k _ hk x=>by have:=hX k x; omega)⟩
  · rintro c X X' a b ⟨rfl,h⟩ hX ha hm hx
    exact ⟨rfl,h.imp (fun h=>hS _ _ _ a b h (hm.mono fun _ _ x=>.inr x) (hXO X X' a b hx)) (fun h=>hSx _ _ a b h (hm.mono fun _ _ x=>.inr x) (hXO X X' a b hx))⟩
  · intro i hi
    rw [List.getElem?_eq_getElem hi]
    simp [rowsV]
  · intro i hi X a ⟨⟨pre,p1,p2⟩,hJa,hKa⟩ hX ha
    obtain ⟨r,hr⟩ : ∃ r,R[i]? = some r:=⟨R[i]'(by simpa [rowsV] using hi),List.getElem?_eq_getElem _⟩
    have hrow : ((rowsV R)[i]?.getD []) = [.agg #[.string ⟨r.1.1.toArray⟩,.string ⟨r.1.2.toArray⟩],.int .i64 r.2]:=by simp [rowsV,hr]
    have hdrop : R.drop i = r :: R.drop (i + 1):=List.drop_eq_getElem?_toList_append.trans (by rw [hr]; rfl)
    rw [hrow]
    simp only [ZB,insVc,loadNK,storeNK,setMany,isPlain,Value.cells,ne_eq,Nat.reduceEqDiff,Nat.reduceAdd,Nat.reduceLeDiff,Zak,Zai,Zaj,Zal,Zam,Zan,Zas,Zat,Zau,Zbg,updMany]
    refine ⟨((Mod.refl _ _).alloc _).set (.inl (Nat.le_refl _)), ?_⟩
    rintro c hmc ⟨_,hJc,hKc⟩
    have hxa : ¬ X a.heap.size:=fun x=>by have:=(hX _ x).2; omega
    have pC:=hmc.keep (get_set_same _ _ (.cells #[.string ⟨r.1.1.toArray⟩,.string ⟨r.1.2.toArray⟩] 29 (0,0)) (by rw [size_alloc]; omega)) hxa
    have bC:=hKc.at b4 (Nat.le_refl _)
    have nC:=hKc.at n4 (by omega)
    obtain ⟨hAc,hgc,_,_,_,_,e4c⟩:=hF _ _ _ hJc
    have l1:=lt_of_get pC
    have l2:=lt_of_get bC
    have l3:=lt_of_get nC
    have l4:=lt_of_get e4c
    have f3:=Nat.ne_of_lt l3
    simp only [ZB,insVc,storeNK,setMany,iopK,iopV,isPlain,Value.cells,ne_eq,Nat.reduceEqDiff,Nat.reduceAdd,Nat.reduceLeDiff,reduceCtorEq,Zak,Zai,Zaj,Zal,Zam,Zan,Zac,Zag,Zb,Zaz,Zav,Zar,Zay,Zaw,Zas,Zat,Zau,get_alloc,Nat.reduceAdd,Zbj,Nat.reduceEqDiff,Zbi,nC,f3]
    have hpre : ∃ pre : List (Bi × Int),pre.length = i∧thingsB R = pre ++ thingsB (r :: R.drop (i + 1)):=⟨pre,p1,by rw [p2,hdrop]⟩
    have hyieldAny : ∀ (u : World) (o : Bi × Int) (tl : List (Bi × Int)) (G : Value→World→Prop),thingsB (r :: R.drop (i + 1)) = o :: tl→Mod (fun _=>False) c u →
        (∀ d v,c.heap.size≤d.heap.size→(∀ k,XO X k→d.heap[k]? = u.heap[k]?)→(v = .bool true∧J (i + 1) (XO X) d)∨(v = .bool false∧Jx (XO X) d)→G v d)→callvK Proofs.Tryz.prog G u [o.1.val,.int .i64 o.2] y:=by
      intro u o tl G ho hmu hG
      obtain ⟨pre,h1,h2⟩:=hpre
      have hi' : (biV (thingsB R))[i]? = some [o.1.val,.int .i64 o.2]:=by rw [h2,ho]; simp [biV,h1]
      have hlt : i < (biV (thingsB R)).length:=by
        rcases Nat.lt_or_ge i (biV (thingsB R)).length with h | h
        · exact h
        · rw [List.getElem?_eq_none h] at hi'; cases hi'
      have hmus:=hmu.size
      have hbd : ∀ k,XO X k→w.heap.size≤k∧k < u.heap.size:=by
        have:=hKc.1
        have:=hmc.size
        rintro k (hk | hk)
        · simp only [size_set,size_alloc] at this; omega
        · have:=hX k hk; simp only [size_set,size_alloc] at *; omega
      have hJu:=hS i _ (XO X) c u hJc (hmu.mono fun _ _ x=>x.elim) (fun k hk=>.inl hk)
      have hyy:=hy i hlt (XO X) u hJu hbd (by have:=hKc.1; omega)
      rw [hi'] at hyy
      refine callvK_mono hyy ?_
      rintro v d ⟨⟨k1,k2⟩,k3⟩
      exact hG d v (by omega) k2 k3
    have hkeepX : ∀ (u d : World),Mod (fun _=>False) c u→(∀ k,XO X k→d.heap[k]? = u.heap[k]?)→∀ k,X k→d.heap[k]? = c.heap[k]?:=by
      intro u d hmu hd k hk
      have:=(hX k hk).2
      have:=hmc.size
      simp only [size_set,size_alloc] at this
      rw [hd k (.inr hk),hmu.get k (by omega) id]
    have hkeepK : ∀ (u d : World),Mod (fun _=>False) c u→c.heap.size≤d.heap.size→(∀ k,XO X k→d.heap[k]? = u.heap[k]?)→Kept w.heap.size w4 d:=by
      intro u d hmu hs hd
      have:=hKc.1
      refine ⟨by omega,fun k h1 h2 => ?_⟩
      rw [hd k (.inl ⟨h1,by omega⟩),hmu.get k (by omega) id,hKc.2 k h1 h2]
    have hbad : ∀ (o : Bi × Int),thingsB (r :: R.drop (i + 1)) = [o]→∀ (u d : World) (v : Value),Mod (fun _=>False) c u→c.heap.size≤d.heap.size→(∀ k,XO X k→d.heap[k]? = u.heap[k]?)→(v = .bool true∧J (i + 1) (XO X) d)∨(v = .bool false∧Jx (XO X) d) →
        (c.heap.size≤d.heap.size∧∀ k,X k→d.heap[k]? = c.heap[k]?)∧(False∧(∃ pre : List (Bi × Int),pre.length = i + 1∧thingsB R = pre ++ thingsB (R.drop (i + 1)))∧J (i + 1) (XO X) d∧Kept w.heap.size w4 d ∨
          ∃ cc,(cc = Code.ret∨∃ id,cc = Code.exit id∧False)∧cc = Code.ret∧(J (biV (thingsB R)).length (XO X) d∨Jx (XO X) d)):=by
      intro o ho u d v hmu k1 k2 k3
      refine ⟨⟨k1,hkeepX u d hmu k2⟩,.inr ⟨.ret,.inl rfl,rfl, ?_⟩⟩
      obtain ⟨pre,h1,h2⟩:=hpre
      have hlen : (biV (thingsB R)).length = i + 1:=by rw [h2,ho]; simp [biV,h1]
      rw [hlen]
      exact k3.imp (·.2) (·.2)
    refine condP_gen ?_
    intro w5 hw5
    have hm5 : Mod (fun _=>False) c w5:=by rw [hw5]; exact (((Mod.refl _ _).alloc _).alloc _).set (.inl (by omega))
    have t5 : w5.heap[c.heap.size]? = some (.cells th0.cells.toArray 98 (0,0)):=by rw [hw5]; simp only [Nat.reduceAdd,and_true,Zac,Zag,size_alloc,Zao,get_alloc,get_set,size_alloc,Zaq,Nat.reduceAdd,Zbl,Zbi]; rfl
    have x5 : w5.heap[c.heap.size + 1]? = some (.cells b0.cells.toArray 64 (0,0)):=by rw [hw5]; simp only [Nat.reduceAdd,size_alloc,Zbe,Zao,size_alloc,Zaq,Nat.reduceAdd]; rfl
    clear hw5
    have p5:=hm5.keep pC id
    have b5:=hm5.keep bC id
    have n5:=hm5.keep nC id
    have e5:=hm5.keep e4c id
    by_cases he : r.2 = 0
    · rw [he]
      simp only [ZB,insVc,load1K,faddrK,ne_eq,Nat.reduceEqDiff,Zad,Zae,Za,Zah,Int.reduceBEq,p5]
      refine parse_c _ w5 _ ?_
      intro w6 hm6
      have t6:=hm6.keep t5 id
      have p6:=hm6.keep p5 id
      have b6:=hm6.keep b5 id
      have n6:=hm6.keep n5 id
      have e6:=hm6.keep e5 id
      have x6:=hm6.keep x5 id
      have hm56:=hm5.trans hm6
      simp only [ZB,insVc,storeNK,extK,ne_eq,Nat.reduceEqDiff,Za,Zaf,Zah,Th.val]
      have hth0 : th0.cells.toArray = #[.string ⟨#[]⟩,.string ⟨#[]⟩,.int .u64 0,.int .u64 0,.string ⟨#[]⟩,.int .i64 0,.string ⟨#[]⟩,.string ⟨#[]⟩,.string ⟨#[]⟩]:=rfl
      rw [hth0] at t6
      have hqz : b0.cells.toArray = zb:=rfl
      rw [hqz] at x6
      have hq1 : ∀ (q : Bi × Int),bgot r = q→r.2 = 0→True:=fun _ _ _=>trivial
      have hgot : bgot r = if (parseR ⟨r.1.1.toArray⟩).2≠0 then (b0,(parseR ⟨r.1.1.toArray⟩).2) else ((parseR ⟨r.1.1.toArray⟩).1.binding,0):=by unfold bgot; rw [if_neg (by simpa using he)]
      revert hgot
      generalize parseR ⟨r.1.1.toArray⟩ = T
      intro hgot
      simp only [ZB,insVc,setMany,iopK,iopV,isPlain,Nat.reduceAdd,Nat.reduceLeDiff,reduceCtorEq,Zak,Zai,Zaj,Zal,Zam,Zan,Zas,Zat,Zau,Th.cells,t6]
      refine condP_gen ?_
      intro w7 hw7
      have hm7' : Mod (fun k=>k = c.heap.size) w6 w7:=by rw [hw7]; exact (Mod.refl _ _).set (.inr rfl)
      have hm7 : Mod (fun _=>False) c w7:=by rw [hw7]; exact hm56.set (.inl (Nat.le_refl _))
      have t7 : w7.heap[c.heap.size]? = some (.cells T.1.cells.toArray 98 (0,0)):=by rw [hw7]; exact get_set_same _ _ _ (lt_of_get t6)
      have p7:=hm7'.keep p6 (by omega)
      have b7:=hm7'.keep b6 (by omega)
      have n7:=hm7'.keep n6 (by omega)
      have e7:=hm7'.keep e6 (by omega)
      have x7:=hm7'.keep x6 (by omega)
      clear hw7
      by_cases hT : T.2 = 0
      · rw [if_neg (by simpa using hT)] at hgot
        rw [hT]
        simp only [Th.cells] at t7
        simp only [ZB,insVc,load1K,loadNK,faddrK,callvK,ne_eq,Nat.reduceEqDiff,Nat.reduceAdd,Nat.reduceLeDiff,Zab,Zad,Zae,Za,Zaf,Zah,Zak,Zai,Zaj,Zaa,Zbr,Int.reduceBEq,Zb,Zaz,Zav,Zar,Zay,Zaw,e7,t7,p7]
        obtain ⟨z,hz⟩ : ∃ z : Int,z = 0:=⟨0,rfl⟩
        refine bound_c T.1 _ z hz w7 _ ?_
        intro w8 hm8
        have hm78:=hm7.trans hm8
        have x8:=hm8.keep x7 id
        have b8:=hm8.keep b7 id
        have n8:=hm8.keep n7 id
        simp only [ZB,insVc,storeNK,setMany,iopK,iopV,extK,isPlain,ne_eq,Nat.reduceEqDiff,Nat.reduceAdd,Nat.reduceLeDiff,reduceCtorEq,Za,Zaf,Zah,Zak,Zai,Zaj,Zal,Zam,Zan,Zas,Zat,Zau,Bi.val,Bi.cells,x8]
        refine condP_gen ?_
        intro w9 hw9
        have hm9' : Mod (fun k=>k = c.heap.size + 1) w8 w9:=by rw [hw9]; exact (Mod.refl _ _).set (.inr rfl)
        have hm9 : Mod (fun _=>False) c w9:=by rw [hw9]; exact hm78.set (.inl (by omega))
        have x9 : w9.heap[c.heap.size + 1]? = some (.cells T.1.binding.cells.toArray 64 (0,0)):=by rw [hw9]; exact get_set_same _ _ _ (lt_of_get x8)
        have b9:=hm9'.keep b8 (by omega)
        clear hw9
        subst hz
        simp only [Bi.cells] at x9
        simp only [ZB,insVc,load1K,loadNK,callvK,ne_eq,Nat.reduceEqDiff,Nat.reduceAdd,Nat.reduceLeDiff,Zad,Zae,Za,Zah,Zak,Zai,Zaj,Int.reduceBNe,Zb,Zaz,Zav,Zar,Zay,Zaw,b9,x9]
        refine hyieldAny w9 (T.1.binding,0) (thingsB (R.drop (i + 1))) _ (by simp [thingsB,hgot]) hm9 ?_
        rintro d v k1 k2 k3
        rcases k3 with ⟨rfl,k3⟩ | ⟨rfl,k3⟩
        · simp only [ZB,insVc,notK,reduceCtorEq]
          refine ⟨⟨k1,hkeepX w9 d hm9 k2⟩,.inl ⟨?_,k3,hkeepK w9 d hm9 k1 k2⟩⟩
          obtain ⟨pre,h1,h2⟩:=hpre
          exact ⟨pre ++ [(T.1.binding,0)],by simp [h1],by rw [h2]; simp [thingsB,hgot]⟩
        · simp only [ZB,insVc,notK,reduceCtorEq]
          exact ⟨⟨k1,hkeepX w9 d hm9 k2⟩,.inr ⟨.ret,.inl rfl,rfl,.inr k3⟩⟩
      · rw [if_pos hT] at hgot
        have hne : (T.2 == 0) = false:=by simpa using hT
        have hne' : (T.2 != 0) = true:=by simpa using hT
        simp only [ZB,insVc,load1K,loadNK,iopK,iopV,callvK,ne_eq,Nat.reduceEqDiff,Nat.reduceAdd,Nat.reduceLeDiff,reduceCtorEq,Zad,Zae,Za,Zah,Zak,Zai,Zaj,Zb,Zaz,Zav,Zar,Zay,Zaw,hne,hne',b7,n7]
        refine hyieldAny w7 (b0,T.2) [] _ (by simp [thingsB,hgot,hT]) hm7 ?_
        rintro d v k1 k2 k3
        simp only [ZB,reduceCtorEq]
        exact hbad (b0,T.2) (by simp [thingsB,hgot,hT]) w7 d v hm7 k1 k2 k3
    · have hne : (r.2 == 0) = false:=by simpa using he
      have hne' : (r.2 != 0) = true:=by simpa using he
      simp only [ZB,insVc,load1K,loadNK,iopK,iopV,callvK,ne_eq,Nat.reduceEqDiff,Nat.reduceAdd,Nat.reduceLeDiff,reduceCtorEq,Zad,Zae,Za,Zah,Zak,Zai,Zaj,Zb,Zaz,Zav,Zar,Zay,Zaw,hne,hne',b5,n5]
      refine hyieldAny w5 (b0,r.2) [] _ (by simp [thingsB,bgot,he]) hm5 ?_
      rintro d v k1 k2 k3
      simp only [ZB,reduceCtorEq]
      exact hbad (b0,r.2) (by simp [thingsB,bgot,he]) w5 d v hm5 k1 k2 k3
  · rintro X u ⟨⟨pre,h1,h2⟩,h3,h4⟩ ⟨a1,a2,a3⟩
    simp only [ZB,endK,resK,markO,a1]
    have hfin':=fun h=>hfin u X (Vc.set u w4.heap.size (.deferred none)) a2 a3 h ((Mod.refl _ _).set (.inr rfl))
    simp only [size_set] at hfin'
    refine hfin' (.inl ?_)
    have hlen : (rowsV R).length = R.length:=by simp [rowsV]
    rw [hlen,List.drop_length] at h2
    have : (rowsV R).length = (biV (thingsB R)).length:=by rw [h2,hlen]; simp [biV,thingsB,h1,hlen]
    rw [← this]; exact h3
  · rintro c X u ⟨rfl,h⟩ ⟨a1,a2,a3⟩
    have hfin':=hfin u X (Vc.set u w4.heap.size (.deferred none)) a2 a3 h ((Mod.refl _ _).set (.inr rfl))
    simp only [size_set] at hfin'
    simp only [ZB,exitOf,endK,resK,markO,a1]
    exact hfin'
theorem thingsB_c {σ : Type} (St : Sto σ) (s : σ) (hpure : PureRng St s) (sort : ByteArray) (l : List Pt) (vl : Value) (m : Int) (w : World) (K : Value→World→Prop)
    (hvl : ∃ a n c,vl = .slice a n c) (hl : l.length < 2 ^ 20) (hs : sort.size < 4294967281) (hp : ∀ p ∈ l,p.good)
    (h : ∀ w' gf cap,Mod (fun _=>False) w w'→IterP Proofs.Tryz.prog gf cap (biV (thingsB (St.under s sort l))) (fun u=>St.At s u∧Gl m u∧IsArg u vl l∧Kept w.heap.size w' u)→K (.func (.func gf) #[] cap.toArray) w') :
    Ok Proofs.Tryz.prog 80 #[.iface St.t St.v,.func (.func 81) #[] #[],.string sort,vl] w K:=by
  obtain ⟨va,vn,vcap,rfl⟩:=hvl
  refine F80.enter (args:=[_,_,_,_]) (by simp) ?_
  unfold c80 r80
  simp only [ZB,endK,resK,packed,insVc,Value.cells,ne_eq,Nat.reduceEqDiff,Nat.reduceAdd,Zab,Zad,Zae,Za,Zaf,Zaa,Zaq,Nat.reduceAdd,Nat.reduceEqDiff]
  refine h _ _ [ptr (w.heap.size + 2),ptr (w.heap.size + 3),ptr w.heap.size,ptr (w.heap.size + 1)] (((((Mod.refl _ _).alloc _).alloc _).alloc _).alloc _) (iterP_mono (thingsB1_c St s hpure sort l (.slice va vn vcap) _ _ _ _ m hl hs hp) ?_)
  rintro u ⟨h1,h2,h4,h3⟩
  refine ⟨h1,h2,h4,h3.at ?_ (by omega),h3.at ?_ (by omega),h3.at ?_ (by omega),h3.at ?_ (by omega)⟩ <;> simp only [Nat.reduceEqDiff,Nat.reduceAdd,reduceCtorEq,Zac,Zag,size_alloc,get_alloc,size_alloc,Zaq,Nat.reduceAdd,Zbm,Zbj,Zbl,Nat.reduceEqDiff,Zbi]
theorem bindings_c {σ : Type} (St : Sto σ) (s : σ) (hpure : PureRng St s) (ex : ByteArray) (m : Int) (w : World) (K : Value→World→Prop) (hex : ex.size < 4294967281)
    (h : ∀ w' gf cap,Mod (fun _=>False) w w'→IterP Proofs.Tryz.prog gf cap (biV (thingsB (St.under s ⟨#[98]⟩ [str ex]))) (fun u=>St.At s u∧Gl m u∧Kept w.heap.size w' u)→K (.func (.func gf) #[] cap.toArray) w') :
    Ok Proofs.Tryz.prog 87 #[.iface St.t St.v,.string ex] w K:=by
  refine F87.enter (args:=[.iface St.t St.v,.string ex]) (by simp) ?_
  unfold c87 r87
  simp only [ZB,insVc,ne_eq,Nat.reduceEqDiff,reduceCtorEq,Zab,Zad,Zae,Za,Zaf]
  refine str_c ex w _ ?_
  intro w1 hm1
  simp only [ZB,insVc,fillL,buildSK,Value.cells,ne_eq,Nat.reduceEqDiff,Nat.reduceAdd,Nat.reduceLeDiff,Zad,Zae,Zak,Zai,Zaj,Zbc,Zbd,Zba,Zbb,Zal,Zam,Zan,Zbf,Zac,Pt.val,Pt.cells,str]
  have hm2 : Mod (fun _=>False) w (w1.alloc (.cells #[.bool true,.int .u64 0,.string ex] 118)):=hm1.alloc _
  have hpts:=pts_lit w1 [str ex] _ rfl
  have hz1:=hm1.size
  refine thingsB_c St s hpure ⟨#[98]⟩ [str ex] _ m _ _ ⟨_,_,_,rfl⟩ (by simp) (by decide) (by simp [Pt.good,str]; exact hex) ?_
  intro w' gf cap hm' it
  simp only [ZB,endK,resK,packed,insVc,Zaa]
  have hms':=hm'.size
  rw [size_alloc] at hms'
  refine h w' gf cap (hm2.trans hm') (iterP_mono it ?_)
  rintro u ⟨h1,h2,h3⟩
  refine ⟨h1,h2,.inr ?_,h3.1,fun k hk hk'=>h3.2 k (by rw [size_alloc] at hk; omega) hk'⟩
  obtain ⟨g,cap',cur,e1,e2,e3⟩:=hpts
  have hgz : w1.heap.size = g:=by
    have:=congrArg (fun v=>v.ownBlock) e1
    exact Option.some.inj this
  have e2':=hm'.keep e2 id
  exact ⟨g,cap',cur,e1,h3.at e2' (by omega),e3⟩
end Go.Oct
