import Derived.Test.YtcbacomljnjacaaGreatDoorVoA
set_option linter.unusedSimpArgs false
set_option linter.unusedVariables false
set_option linter.unusedSectionVars false
set_option linter.unnecessarySimpa false
namespace Go.Oct
open Go Go.Vc Go.VrA
set_option maxRecDepth 100000
theorem wrap_u8 (n : Nat) : IntKind.u8.wrap (n : Int) = ((n % 256 : Nat) : Int):=by rw [IntKind.wrap_u8]; omega
theorem wrap_u32 (n : Nat) : IntKind.u32.wrap (n : Int) = ((n % 2 ^ 32 : Nat) : Int):=by rw [IntKind.wrap_u32]; omega
theorem one_c (b : Nat) (r : Rd) (w : World) (K : Value→World→Prop) (hb : IsRd w b r) (hs : (r.1.size : Int) < 2 ^ 63)
    (h : ∀ w',Mod (fun k=>k = b) w w'→IsRd w' b (number r 1).2→K (.int .u8 ((number r 1).1 % 256 : Nat)) w') :
    Ok Proofs.Tryz.prog 261 #[ptr b] w K:=by
  refine F261.enter (args:=[ptr b]) (by simp) ?_
  unfold c261 r261
  simp only [ZB,insVc,ne_eq,reduceCtorEq,Zaf,Zad,Zac,Za]
  refine number_c b r 1 w _ hb hs ?_
  intro w1 hm hb1
  simp only [ZB,endK,resK,packed,insVc,convK,Zaa,wrap_u8]
  exact h w1 hm hb1
theorem four_c (b : Nat) (r : Rd) (w : World) (K : Value→World→Prop) (hb : IsRd w b r) (hs : (r.1.size : Int) < 2 ^ 63)
    (h : ∀ w',Mod (fun k=>k = b) w w'→IsRd w' b (number r 4).2→K (.int .u32 ((number r 4).1 % 2 ^ 32 : Nat)) w') :
    Ok Proofs.Tryz.prog 224 #[ptr b] w K:=by
  refine F224.enter (args:=[ptr b]) (by simp) ?_
  unfold c224 r224
  simp only [ZB,insVc,ne_eq,reduceCtorEq,Zaf,Zad,Zac,Za]
  refine number_c b r 4 w _ hb hs ?_
  intro w1 hm hb1
  simp only [ZB,endK,resK,packed,insVc,convK,Zaa,wrap_u32]
  exact h w1 hm hb1
theorem eight_c (b : Nat) (r : Rd) (w : World) (K : Value→World→Prop) (hb : IsRd w b r) (hs : (r.1.size : Int) < 2 ^ 63)
    (h : ∀ w',Mod (fun k=>k = b) w w'→IsRd w' b (number r 8).2→K (.int .u64 ((number r 8).1 : Nat)) w') :
    Ok Proofs.Tryz.prog 225 #[ptr b] w K:=by
  refine F225.enter (args:=[ptr b]) (by simp) ?_
  unfold c225 r225
  simp only [ZB,insVc,ne_eq,reduceCtorEq,Zaf,Zad,Zac,Za]
  refine number_c b r 8 w _ hb hs ?_
  intro w1 hm hb1
  simp only [ZB,endK,resK,packed,insVc,Zaa]
  exact h w1 hm hb1
theorem fail_c (b : Nat) (r : Rd) (e : Int) (w : World) (K : Value→World→Prop) (hb : IsRd w b r)
    (h : ∀ w' v,Mod (fun k=>k = b) w w'→IsRd w' b (fail r e)→K v w') :
    Ok Proofs.Tryz.prog 263 #[ptr b,.int .i64 e] w K:=by
  refine F263.enter (args:=[ptr b,.int .i64 e]) (by simp) ?_
  unfold c263 r263
  have hlt:=lt_of_get hb
  unfold IsRd at hb h
  simp only [ZB,insVc,pickK,load1K,nilK,iopK,iopV,nilOf,pnilK,faddrK,ne_eq,Nat.reduceEqDiff,reduceCtorEq,Zaf,Za,Zag,Zah,Zab,Zbr,hb]
  refine condP_split ?_ ?_
  · intro he
    have he' : r.2 = 0:=by simpa using he
    have ht : fail r e = (r.1,e):=by simp [fail,he']
    rw [ht] at h
    simp only [ZB,endK,resK,packed,insVc,storeK,nilK,faddrK,isPlain,ne_eq,Nat.reduceEqDiff,Nat.reduceAdd,Nat.reduceLT,Nat.reduceLeDiff,reduceCtorEq,Zaf,Za,Zag,Zai,Zaj,Zak,Zal,Zam,Zan,Zb,hb]
    exact h _ _ ((Mod.refl _ _).set (.inr rfl)) (get_set_same _ _ _ hlt)
  · intro he
    have he' : r.2≠0:=by simpa using he
    have ht : fail r e = r:=by simp [fail,he']
    rw [ht] at h
    simp only [ZB,endK,resK,packed]
    exact h _ _ (Mod.refl _ _) hb
theorem left_c (b : Nat) (r : Rd) (w : World) (K : Value→World→Prop) (hb : IsRd w b r) (h : K (.int .i64 r.1.size) w) :
    Ok Proofs.Tryz.prog 291 #[ptr b] w K:=by
  refine F291.enter (args:=[ptr b]) (by simp) ?_
  unfold c291 r291
  unfold IsRd at hb
  simp only [ZB,endK,resK,packed,insVc,load1K,nilK,nilOf,pnilK,faddrK,lenSK,ne_eq,reduceCtorEq,Zaf,Za,Zah,Zaa,Zae,Zbr,hb]
  exact h
theorem err_c (b : Nat) (r : Rd) (w : World) (K : Value→World→Prop) (hb : IsRd w b r) (h : K (.int .i64 r.2) w) :
    Ok Proofs.Tryz.prog 262 #[ptr b] w K:=by
  refine F262.enter (args:=[ptr b]) (by simp) ?_
  unfold c262 r262
  unfold IsRd at hb
  simp only [ZB,endK,resK,packed,insVc,load1K,nilK,nilOf,pnilK,faddrK,ne_eq,reduceCtorEq,Zaf,Za,Zag,Zah,Zaa,Zae,Zbr,hb]
  exact h
theorem ende_c (b : Nat) (r : Rd) (w : World) (K : Value→World→Prop) (hb : IsRd w b r) (h : K (.int .i64 (ende r)) w) :
    Ok Proofs.Tryz.prog 215 #[ptr b] w K:=by
  refine F215.enter (args:=[ptr b]) (by simp) ?_
  unfold c215 r215
  simp only [ZB,insVc,ne_eq,reduceCtorEq,Zaf,Zad,Zac,Za]
  refine err_c b r w _ hb ?_
  unfold IsRd at hb
  simp only [ZB,insVc,iopK,iopV,reduceCtorEq]
  refine condP_split ?_ ?_
  · intro he
    have he' : r.2≠0:=by simpa using he
    have ht : ende r = r.2:=by simp [ende,he']
    rw [ht] at h
    exact h
  · intro he
    have he' : r.2 = 0:=by simpa using he
    simp only [ZB,insVc,load1K,nilK,iopK,iopV,faddrK,lenSK,ne_eq,reduceCtorEq,Zaf,Za,Zah,hb]
    refine condP_split ?_ ?_
    · intro he2
      have ht : ende r = 4:=by unfold ende; rw [if_neg (by simpa using he'),if_pos (by have:=of_decide_eq_true he2; omega)]
      rw [ht] at h
      simp only [ZB,endK,resK,packed,insVc,Zaa]
      exact h
    · intro he2
      have ht : ende r = 0:=by unfold ende; rw [if_neg (by simpa using he'),if_neg (by have:=of_decide_eq_false he2; omega)]
      rw [ht] at h
      simp only [ZB,endK,resK,packed,insVc,Zaa]
      exact h
theorem take_size (r : Rd) (n : Int) : (take r n).2.1.size≤r.1.size:=by
  unfold take
  split
  · exact Nat.le_refl _
  · split
    · exact Nat.le_refl _
    · simp only [ByteArray.size_extract]; omega
theorem text_c (b : Nat) (r : Rd) (most : Int) (w : World) (K : Value→World→Prop) (hb : IsRd w b r) (hs : (r.1.size : Int) < 2 ^ 63) (hm : most < 2 ^ 63)
    (h : ∀ w',Mod (fun k=>k = b) w w'→IsRd w' b (text r most).2→K (.string (text r most).1) w') :
    Ok Proofs.Tryz.prog 226 #[ptr b,.int .i64 most] w K:=by
  refine F226.enter (args:=[ptr b,.int .i64 most]) (by simp) ?_
  unfold c226 r226
  simp only [ZB,insVc,ne_eq,reduceCtorEq,Zaf,Zad,Zac,Za]
  refine four_c b r w _ hb hs ?_
  intro w1 hm1 hb1
  simp only [ZB,insVc,convK,ne_eq,Nat.reduceEqDiff,Zaf,Za,Zag]
  refine rawK_max (a:=most) (b:=0) (k:=.i64) (k':=.i64) rfl rfl rfl (by simp only [ZB]) (by simp only [ZB]) ?_
  simp only [ZB,insVc,iopK,iopV,convK,ne_eq,Nat.reduceEqDiff,reduceCtorEq]
  have e1 : IntKind.u64.wrap (((number r 4).1 % 2 ^ 32 : Nat) : Int) = ((number r 4).1 % 2 ^ 32 : Nat):=wrap_u64 _ (by omega)
  have e2 : IntKind.u64.wrap (max most 0) = ((max most 0).toNat : Int):=by rw [IntKind.wrap_u64]; omega
  simp only [e1,e2]
  refine condP_split ?_ ?_
  · intro hg
    have hg':=of_decide_eq_true hg
    have ht : text r most = (e0,fail (number r 4).2 5):=by
      unfold text; simp only []; rw [if_pos (by omega)]
    rw [ht] at h
    simp only [ZB,insVc,ne_eq,reduceCtorEq,Zaf,Zad,Zac,Za]
    refine fail_c b _ 5 w1 _ hb1 ?_
    intro w2 v hm2 hb2
    simp only [ZB,endK,resK,packed,insVc,Zaa]
    exact h w2 (hm1.trans hm2) hb2
  · intro hg
    have hg':=of_decide_eq_false hg
    have ht : text r most = take (number r 4).2 (((number r 4).1 % 2 ^ 32 : Nat) : Int):=by
      unfold text; simp only []; rw [if_neg (by omega)]
    rw [ht] at h
    simp only [ZB,insVc,convK,ne_eq,Nat.reduceEqDiff,reduceCtorEq,Zaf,Zad,Zac,Za,wrap_i64 (((number r 4).1 % 2 ^ 32 : Nat) : Int) (by omega)]
    refine take_c b _ _ w1 _ hb1 ?_
    intro w2 hm2 hb2
    simp only [ZB,endK,resK,packed,insVc,Zaa]
    exact h w2 (hm1.trans hm2) hb2
def byteN (n i : Nat) : UInt8:=UInt8.ofNat (n / 2 ^ (8 * (7 - i)))
def cellsAt (n i : Nat) : List Value:=(List.range 8).map fun j=>.int .u8 (if j < i then ((byteN n j).toNat : Int) else 0)
theorem cellsAt_set (n i : Nat) : (cellsAt n i).set i (.int .u8 ((byteN n i).toNat : Int)) = cellsAt n (i + 1):=by
  apply List.ext_getElem?
  intro k
  rw [List.getElem?_set]
  simp only [cellsAt,List.getElem?_map,List.length_map,List.length_range]
  by_cases hk : k < 8
  · simp only [List.getElem?_range hk,Zbn]
    by_cases e : i = k
    · subst e; simp [hk]
    · rw [if_neg e]
      by_cases h1 : k < i
      · simp [h1,show k < i + 1 by omega]
      · simp [h1,show ¬ k < i + 1 by omega]
  · have : (List.range 8)[k]? = none:=by simp; omega
    simp [this]
    omega
theorem byte_shr (n i : Nat) (hi : i < 8) : IntKind.u8.wrap ((n : Int).fdiv (2 ^ (min (IntKind.i64.wrap (8 * IntKind.i64.wrap (7 - (i : Int)))).toNat IntKind.u64.bits))) = ((byteN n i).toNat : Int):=by
  rw [wrap_i64 (7 - (i : Int)) (by omega),wrap_i64 _ (by omega)]
  have e : min (8 * (7 - (i : Int))).toNat IntKind.u64.bits = 8 * (7 - i):=by
    have : IntKind.u64.bits = 64:=rfl
    rw [this]; omega
  rw [e]
  have e2 : (n : Int).fdiv (2 ^ (8 * (7 - i))) = ((n / 2 ^ (8 * (7 - i)) : Nat) : Int):=by
    rw [Int.fdiv_eq_ediv_of_nonneg _ (by exact Int.le_of_lt (Int.pow_pos (by decide)))]
    push_cast
    rfl
  rw [e2,wrap_u8]
  simp [byteN]
theorem big_c (n k : Nat) (w : World) (K : Value→World→Prop) (hn : n < 2 ^ 64) (hk1 : 1≤k) (hk : k≤8)
    (h : ∀ w',Mod (fun _=>False) w w'→K (.string (big n k)) w') :
    Ok Proofs.Tryz.prog 157 #[.int .u64 n,.int .i64 k] w K:=by
  refine F157.enter (args:=[.int .u64 n,.int .i64 k]) (by simp) ?_
  unfold c157 r157
  simp only [ZB,insVc,Value.cells]
  refine vc_loop (fun m ρ ds w'=>ds = []∧ρ 0 = .int .u64 n∧ρ 1 = .int .i64 k∧ρ 5 = ptr w.heap.size∧Mod (fun _=>False) w w'∧∃ i : Nat,i + m = 8∧ρ 7 = .int .i64 i∧w'.heap[w.heap.size]? = some (.cells (cellsAt n i).toArray 318 (0,0))) 8 ?_ ?_
  · exact ⟨rfl,by simp only [ZB,ne_eq,reduceCtorEq,Zaf,Za],by simp only [ZB,ne_eq,Nat.reduceEqDiff,Zaf,Za,Zag],by simp only [ZB,ne_eq,Nat.reduceEqDiff],(Mod.refl _ _).alloc _,0,by simp,by simp only [ZB]; rfl,get_alloc_new _ _⟩
  · rintro m ρ ds w' ⟨rfl,h0,h1,h5,hm,i,him,h7,hb⟩
    simp only [ZB,insVc,iopK,iopV,reduceCtorEq,h7]
    by_cases hi : (i : Int) < 8
    · have hneg : ¬ IntKind.i64.wrap (8 * IntKind.i64.wrap (7 - (i : Int))) < 0:=by rw [wrap_i64 (7 - (i : Int)) (by omega),wrap_i64 _ (by omega)]; omega
      simp only [ZB,insVc,storeK,iopK,iopV,convK,iaddrAK,isPlain,ne_eq,Nat.reduceEqDiff,reduceCtorEq,Zai,Zal,or_true,Zae,Zbj,Zbm,hi,h0,h1,h5,h7,hb,hneg,byte_shr n i (by omega)]
      have hsz : i < (cellsAt n i).length:=by simp [cellsAt]; omega
      refine ⟨by omega,by simp; omega,m - 1,by omega, ?_⟩
      refine ⟨hm.set (.inl (Nat.le_refl _)),i + 1,by omega,by rw [wrap_i64 _ (by omega)]; rfl, ?_⟩
      rw [get_set_same _ _ _ (lt_of_get hb),cellsAt_set]
    · have h8 : i = 8:=by omega
      subst h8
      simp only [ZB,insVc,iopK,iopV,boundOf,slAK,ne_eq,Nat.reduceEqDiff,reduceCtorEq,Zbn,Zbu,Zbj,Zbm,hi,h1,h5]
      rw [wrap_i64 (8 - (k : Int)) (by omega)]
      refine ⟨by omega, ?_⟩
      have e1 : 8 - (8 - (k : Int)).toNat = k:=by omega
      have hne : ¬ (8 = (8 - (k : Int)).toNat):=by omega
      rw [e1]
      refine rawK_conv (v:=.string (big n k)) rfl rfl ?_ ?_
      · simp only [ZB]
        have hl : ((List.range k).map fun i=>UInt8.ofNat (n / 2 ^ (8 * (k - 1 - i)))).length = k:=by simp
        have:=run_convert_bytes_back (P:=Proofs.Tryz.prog) w' 319 9 5 ((⟨w.heap.size,0,none⟩ : Addr).add ((8 - (k : Int)).toNat * 1)) k ((List.range k).map fun i=>UInt8.ofNat (n / 2 ^ (8 * (k - 1 - i)))) (by kernel_rfl) (by kernel_rfl) (by kernel_rfl) ?_
        · rw [hl,Nat.mul_one] at this; rw [if_neg hne]; exact this
        · intro j hj
          rw [hl] at hj
          have hget : (cellsAt n 8)[(8 - (k : Int)).toNat + j]? = some (.int .u8 ((byteN n ((8 - (k : Int)).toNat + j)).toNat : Int)):=by
            simp only [cellsAt,List.getElem?_map,List.getElem?_range (show (8 - (k : Int)).toNat + j < 8 by omega),Zbn]
            rw [if_pos (by omega)]
          simp only [Addr.add_lit,World.cell?,hb,Zbm,Nat.zero_add,Zah,hget]
          simp only [byteN,List.getElem_map,List.getElem_range,show 7 - ((8 - (k : Int)).toNat + j) = k - 1 - j by omega]
          rfl
      · simp only [ZB,endK,resK,packed,insVc,Zaa]
        exact h w' hm
theorem wone_c (n : Nat) (w : World) (K : Value→World→Prop) (hn : n < 256) (h : ∀ w',Mod (fun _=>False) w w'→K (.string (big n 1)) w') :
    Ok Proofs.Tryz.prog 96 #[.int .u8 n] w K:=by
  refine F96.enter (args:=[.int .u8 n]) (by simp) ?_
  unfold c96 r96
  simp only [ZB,insVc,convK,ne_eq,reduceCtorEq,Zaf,Zad,Zac,Za,wrap_u64 n (by omega)]
  refine big_c n 1 w _ (by omega) (by omega) (by omega) ?_
  intro w1 hm
  simp only [ZB,endK,resK,packed,insVc,Zaa]
  exact h w1 hm
theorem wfour_c (n : Nat) (w : World) (K : Value→World→Prop) (hn : n < 2 ^ 32) (h : ∀ w',Mod (fun _=>False) w w'→K (.string (big n 4)) w') :
    Ok Proofs.Tryz.prog 159 #[.int .u32 n] w K:=by
  refine F159.enter (args:=[.int .u32 n]) (by simp) ?_
  unfold c159 r159
  simp only [ZB,insVc,convK,ne_eq,reduceCtorEq,Zaf,Zad,Zac,Za,wrap_u64 n (by omega)]
  refine big_c n 4 w _ (by omega) (by omega) (by omega) ?_
  intro w1 hm
  simp only [ZB,endK,resK,packed,insVc,Zaa]
  exact h w1 hm
theorem weight_c (n : Nat) (w : World) (K : Value→World→Prop) (hn : n < 2 ^ 64) (h : ∀ w',Mod (fun _=>False) w w'→K (.string (big n 8)) w') :
    Ok Proofs.Tryz.prog 160 #[.int .u64 n] w K:=by
  refine F160.enter (args:=[.int .u64 n]) (by simp) ?_
  unfold c160 r160
  simp only [ZB,insVc,ne_eq,reduceCtorEq,Zaf,Zad,Zac,Za]
  refine big_c n 8 w _ hn (by omega) (by omega) ?_
  intro w1 hm
  simp only [ZB,endK,resK,packed,insVc,Zaa]
  exact h w1 hm
theorem big_size (n k : Nat) : (big n k).size = k:=by simp [big,ByteArray.size]
theorem wtext_c (s : ByteArray) (w : World) (K : Value→World→Prop) (hs : s.size < 2 ^ 62) (h : ∀ w',Mod (fun _=>False) w w'→K (.string (textB s)) w') :
    Ok Proofs.Tryz.prog 158 #[.string s] w K:=by
  refine F158.enter (args:=[.string s]) (by simp) ?_
  unfold c158 r158
  simp only [ZB,insVc,convK,lenSK,ne_eq,reduceCtorEq,Zaf,Zad,Zac,Za,wrap_u32]
  refine wfour_c (s.size % 2 ^ 32) w _ (by omega) ?_
  intro w1 hm
  have hmax : ¬ (((big (s.size % 2 ^ 32) 4).size + s.size : Nat) : Int) > IntKind.i64.max:=by
    rw [big_size]; have : IntKind.i64.max = 9223372036854775807:=rfl
    rw [this]; omega
  simp only [ZB,endK,resK,packed,insVc,sopK,sopV,ne_eq,Nat.reduceEqDiff,reduceCtorEq,Zaf,Za,Zaa,Zae,hmax]
  exact h w1 hm
end Go.Oct
