import Derived.Test.YtbkddpckkgbbmaaGreatDoorVoK
import Derived.Test.YtbkddpckkgbbmaaGreatDoorVcT
import Derived.Test.YtbkddpckkgbbmaaGreatDoorVrF
import Derived.Deep.OwnRows
set_option linter.unusedSimpArgs false
set_option linter.unusedVariables false
set_option linter.unusedSectionVars false
set_option linter.unnecessarySimpa false
namespace Go.Oct
open Go Go.Vc Go.VrA Go.VrF
set_option maxRecDepth 100000
def splitL : List UInt8→List (List UInt8)
  | []=>[[]]
  | c :: r=>if c = 46 then [] :: splitL r else
    match splitL r with
    | []=>[[c]]
    | w :: ws=>(c :: w) :: ws
theorem splitL_ne (l : List UInt8) : splitL l≠[]:=by
  cases l with
  | nil=>simp [splitL]
  | cons c r =>
    unfold splitL
    split
    · simp
    · split <;> simp
theorem splitL_none : ∀ (l : List UInt8),Lib.indexByte l 46 = -1→splitL l = [l]:=by
  intro l
  induction l with
  | nil=>intro _; rfl
  | cons c r ih =>
    intro h
    unfold Lib.indexByte at h
    by_cases hc : c = 46
    · simp [hc] at h
    · rw [if_neg (by simpa using hc)] at h
      by_cases hr : Lib.indexByte r 46 = -1
      · unfold splitL
        rw [if_neg hc,ih hr]
      · have:=Lib.indexByte_ge r 46
        rw [if_neg (by simpa using hr)] at h
        omega
theorem splitL_some : ∀ (l : List UInt8) (n : Nat),Lib.indexByte l 46 = (n : Int)→n < l.length∧splitL l = l.take n :: splitL (l.drop (n + 1)):=by
  intro l
  induction l with
  | nil=>intro n h; simp [Lib.indexByte] at h
  | cons c r ih =>
    intro n h
    unfold Lib.indexByte at h
    by_cases hc : c = 46
    · rw [if_pos (by simp [hc])] at h
      have : n = 0:=by omega
      subst this
      refine ⟨by simp, ?_⟩
      rw [splitL,if_pos hc]; rfl
    · rw [if_neg (by simpa using hc)] at h
      by_cases hr : Lib.indexByte r 46 = -1
      · rw [if_pos (by simpa using hr)] at h; omega
      · have:=Lib.indexByte_ge r 46
        rw [if_neg (by simpa using hr)] at h
        obtain ⟨k,hk⟩ : ∃ k : Nat,Lib.indexByte r 46 = (k : Int):=⟨(Lib.indexByte r 46).toNat,by omega⟩
        obtain ⟨h1,h2⟩:=ih k hk
        have hn : n = k + 1:=by omega
        subst hn
        refine ⟨by rw [List.length_cons]; omega, ?_⟩
        rw [splitL,if_neg hc,h2]; rfl
def wordsR (s : ByteArray) : List (List UInt8):=if s.size = 0 then [] else splitL s.data.toList
def wordsV (l : List (List UInt8)) : List (List Value):=l.map fun w=>[.string ⟨w.toArray⟩]
theorem ext_lo (s : ByteArray) (n : Nat) : s.extract 0 n = ⟨(s.data.toList.take n).toArray⟩:=by
  apply ByteArray.ext
  rw [ByteArray.data_extract]
  apply Array.ext'
  simp
theorem ext_hi (s : ByteArray) (n : Nat) : (s.extract n s.size).data.toList = s.data.toList.drop n:=by
  rw [ByteArray.data_extract]
  simp only [Array.toList_extract,Zaz]
  rw [List.take_of_length_le]
  rw [List.length_drop,Array.length_toList]
  exact Nat.le_refl _
def KeptX (X0 : Nat→Prop) (lo : Nat) (w u : World) : Prop:=w.heap.size≤u.heap.size∧∀ k,lo≤k→k < w.heap.size→¬ X0 k→u.heap[k]? = w.heap[k]?
theorem KeptX.mod {X0 S : Nat→Prop} {lo : Nat} {w a b : World} (h : KeptX X0 lo w a) (hm : Mod S a b) (hS : ∀ k,lo≤k→k < w.heap.size→¬ X0 k→¬ S k) : KeptX X0 lo w b:=by
  have h1:=h.1
  exact ⟨Nat.le_trans h.1 hm.size,fun k h2 h3 h4=>(hm.get k (by omega) (hS k h2 h3 h4)).trans (h.2 k h2 h3 h4)⟩
theorem splitSeq1_c (c1 c2 c3 : Nat) (s : ByteArray) (hs : s.size < 2 ^ 40) :
    IterX Proofs.Tryz.prog 251 [ptr c1,ptr c2,ptr c3] (wordsV (splitL s.data.toList)) (fun k=>k = c2) (fun u=>u.heap[c2]? = some (.cells #[.string s] 9 (0,0)))
      (fun u=>u.heap[c1]? = some (.cells #[.string ⟨#[46]⟩] 9 (0,0))∧u.heap[c3]? = some (.cells #[.int .i64 0] 3 (0,0))):=by
  intro y _ J Jx w hJ hpre hX0 hF hS hSx hy
  refine F251.enter (args:=[y,ptr c1,ptr c2,ptr c3]) (by simp) ?_
  unfold c251 r251
  obtain ⟨e1,e3⟩:=hF 0 _ _ hJ
  have z1 : (⟨#[46]⟩ : ByteArray).size = 1:=rfl
  simp only [ZB,insVc,load1K,iopK,iopV,lenSK,reduceCtorEq,Zab,Za,Zaf,Zah,e1,z1]
  have hlen : (wordsV (splitL s.data.toList)).length = (splitL s.data.toList).length:=by simp [wordsV]
  refine vc_loop (fun mm ρ ds u => ∃ (i : Nat) (X : Nat→Prop) (t : ByteArray),mm = t.size∧t.size≤s.size∧ρ 0 = y∧ρ 1 = ptr c1∧ρ 2 = ptr c2∧ρ 3 = ptr c3∧ds = []∧J i X u∧(∀ k,X k→(k = c2∨w.heap.size≤k)∧k < u.heap.size)∧X c2∧u.heap[c2]? = some (.cells #[.string t] 9 (0,0))∧w.heap.size≤u.heap.size ∧
    (splitL s.data.toList).drop i = splitL t.data.toList) s.size ?_ ?_
  · refine ⟨0,fun k=>k = c2,s,rfl,Nat.le_refl _, ?_⟩
    simp only [ZB,ne_eq,Nat.reduceEqDiff,reduceCtorEq,Zab,Za,Zaf,Zav]
    exact ⟨hJ,fun k hk=>⟨.inl hk,hX0 k hk⟩,hpre,Nat.le_refl _⟩
  · rintro mm ρ ds u ⟨i,X,t,rfl,hts0,g0,g1,g2,g3,rfl,hJu,hX,hXc,ht,hsu,hdr⟩
    obtain ⟨e1',e3'⟩:=hF _ _ _ hJu
    have hyield : ∀ (x : List UInt8) (rest : List (List UInt8)),(splitL s.data.toList).drop i = x :: rest→∀ G : Value→World→Prop,
        (∀ u',u.heap.size≤u'.heap.size→(∀ k,X k→u'.heap[k]? = u.heap[k]?)→J (i + 1) X u'→G (.bool true) u') →
        (∀ u',u.heap.size≤u'.heap.size→Jx X u'→G (.bool false) u') →
        callvK Proofs.Tryz.prog G u [.string ⟨x.toArray⟩] y:=by
      intro x rest hd G g1 g2
      have hx : (splitL s.data.toList)[i]? = some x:=by
        have:=congrArg (fun l=>l[0]?) hd
        simpa using this
      have hil : i < (wordsV (splitL s.data.toList)).length:=by rw [hlen]; exact (List.getElem?_eq_some_iff.1 hx).1
      have hr : (wordsV (splitL s.data.toList))[i]? = some [.string ⟨x.toArray⟩]:=by simp [wordsV,hx]
      have hyy:=hy i hil X u hJu hX hsu
      rw [hr] at hyy
      refine callvK_mono hyy ?_
      rintro v u' ⟨⟨q1,q2⟩,⟨rfl,q3⟩ | ⟨rfl,q3⟩⟩
      · exact g1 u' q1 q2 q3
      · exact g2 u' q1 q3
    simp only [ZB,insVc,load1K,ne_eq,Nat.reduceEqDiff,Zad,Zae,Za,Zah,g1,g2,ht,e1']
    refine ok_of_calls (by kernel_rfl) (Go.Proofs.Tryz.strings_Index_one t 46 u) ?_
    rintro e u1 ⟨rfl,rfl⟩
    refine ⟨_,rfl, ?_⟩
    by_cases hneg : Lib.indexByte t.data.toList 46 = -1
    · have d1 : Lib.indexByte t.data.toList 46 < 0:=by omega
      have hsp:=splitL_none _ hneg
      rw [hsp] at hdr
      have hts : t = ⟨t.data.toList.toArray⟩:=by cases t; simp
      have hi1 : i + 1 = (splitL s.data.toList).length:=by
        have:=congrArg List.length hdr
        rw [List.length_drop,List.length_cons,List.length_nil] at this
        omega
      have hfin : ∀ u' : World,u1.heap.size≤u'.heap.size→(J (i + 1) X u'∨Jx X u')→w.heap.size≤u'.heap.size∧∃ X,(∀ k,X k→(k = c2∨w.heap.size≤k)∧k < u'.heap.size)∧(J (wordsV (splitL s.data.toList)).length X u'∨Jx X u'):=by
        intro u' q1 q3
        refine ⟨Nat.le_trans hsu q1,X,fun k hk=>⟨(hX k hk).1,Nat.lt_of_lt_of_le (hX k hk).2 q1⟩, ?_⟩
        rw [hlen,← hi1]; exact q3
      simp only [ZB,blockQ_exit,insVc,load1K,iopK,iopV,callvK,ne_eq,Nat.reduceEqDiff,reduceCtorEq,Zad,Zae,Za,Zah,d1,g0,g2,ht]
      have hgo:=hyield _ _ hdr
      rw [← hts] at hgo
      refine hgo _ ?_ ?_
      · intro u' q1 q2 q3
        simp only [ZB,endK,resK]
        exact hfin u' q1 (.inl q3)
      · intro u' q1 q3
        simp only [ZB,endK,resK]
        exact hfin u' q1 (.inr q3)
    · have:=Lib.indexByte_ge t.data.toList 46
      obtain ⟨n,hn⟩ : ∃ n : Nat,Lib.indexByte t.data.toList 46 = (n : Int):=⟨(Lib.indexByte t.data.toList 46).toNat,by omega⟩
      obtain ⟨hnl,hsp⟩:=splitL_some _ _ hn
      have hts : t.data.toList.length = t.size:=by rw [Array.length_toList]; rfl
      rw [hts] at hnl
      rw [hn]
      rw [hsp] at hdr
      have d1 : ¬ (n : Int) < 0:=by omega
      have hw0 : IntKind.i64.wrap ((n : Int) + 0) = (n : Int):=by rw [wrap_i64 _ (by omega)]; omega
      have hb1 : (0 : Int)≤((0 : Nat) : Int)∧((0 : Nat) : Int)≤(n : Int)∧(n : Int)≤((t.size : Nat) : Int):=by omega
      simp only [ZB,insVc,load1K,iopK,iopV,callvK,boundOf,slSK,ne_eq,Nat.reduceEqDiff,reduceCtorEq,Zbk,Zbn,Zad,Zae,Za,Zah,Zax,d1,g0,g2,g3,ht,e3',hw0,hb1,ext_lo]
      refine hyield _ _ hdr _ ?_ ?_
      · intro u' q1 q2 q3
        obtain ⟨f1,f3⟩:=hF _ _ _ q3
        have ht':=(q2 c2 hXc).trans ht
        have hw1 : IntKind.i64.wrap ((n : Int) + ((1 : Nat) : Int)) = ((n + 1 : Nat) : Int):=by rw [wrap_i64 _ (by omega)]; omega
        have hb2 : (0 : Int)≤((n + 1 : Nat) : Int)∧((n + 1 : Nat) : Int)≤((t.size : Nat) : Int)∧((t.size : Nat) : Int)≤((t.size : Nat) : Int):=by omega
        have hm : Mod X u' (Vc.set u' c2 (.cells #[.string (t.extract (n + 1) t.size)] 9)):=(Mod.refl _ _).set (.inr hXc)
        simp only [ZB,insVc,load1K,storeK,iopK,iopV,notK,lenSK,boundOf,slSK,isPlain,ne_eq,Nat.reduceEqDiff,Nat.reduceLT,Nat.reduceLeDiff,reduceCtorEq,Zbk,Zbn,Za,Zah,Zak,Zai,Zaj,Zal,Zam,Zax,Zao,g0,g1,g2,g3,ht',f1,hw1,hb2,z1]
        refine ⟨(t.extract (n + 1) t.size).size, ?_,i + 1,X,t.extract (n + 1) t.size,rfl, ?_, ?_⟩
        · rw [ByteArray.size_extract]; omega
        · rw [ByteArray.size_extract]; omega
        · refine ⟨hS _ _ _ _ _ q3 hm (fun k hk=>.inl hk),fun k hk=>⟨(hX k hk).1,Nat.lt_of_lt_of_le (hX k hk).2 q1⟩,hXc,get_set_same _ _ _ (lt_of_get ht'),Nat.le_trans hsu q1, ?_⟩
          rw [ext_hi,← List.drop_drop,hdr]; rfl
      · intro u' q1 q3
        simp only [ZB,endK,resK,insVc,notK]
        exact ⟨Nat.le_trans hsu q1,X,fun k hk=>⟨(hX k hk).1,Nat.lt_of_lt_of_le (hX k hk).2 q1⟩,.inr q3⟩
end Go.Oct
namespace Go.Oct
open Go Go.Vc Go.VrA Go.VrF
set_option maxRecDepth 100000
theorem iterX_mono {P : Program} {gf : FuncId} {cap : List Value} {xs : List (List Value)} {X0 : Nat→Prop} {Pre Pre' F F' : World→Prop} (h : IterX P gf cap xs X0 Pre F) (hP : ∀ w,Pre' w→Pre w) (hF : ∀ w,F' w→F w) : IterX P gf cap xs X0 Pre' F' :=
  fun y yf J Jx w hJ hp hX hJF hS hSx hy=>h y yf J Jx w hJ (hP w hp) hX (fun i X u hu=>hF u (hJF i X u hu)) hS hSx hy
theorem words_none (Facts : World→Prop) : IterP Proofs.Tryz.prog 217 [] [] Facts:=by
  rintro y ⟨fy,ya,yb,rfl⟩ J Jx w hJ hF hS hSx hy
  refine F217.enter (args:=[.func fy ya yb]) (by simp) ?_
  unfold c217 r217
  simp only [ZB,endK,resK,Zaj]
  exact ⟨Nat.le_refl _,fun _=>False,fun _ h=>h.elim,.inl hJ⟩
theorem words_c (s : ByteArray) (hs : s.size < 2 ^ 40) (w : World) (K : Value→World→Prop)
    (h : ∀ w' gf cap X0,Mod (fun _=>False) w w'→(∀ k,X0 k→w.heap.size≤k∧k < w'.heap.size)→IterX Proofs.Tryz.prog gf cap (wordsV (wordsR s)) X0 (fun u=>Kept w.heap.size w' u) (fun u=>KeptX X0 w.heap.size w' u)→K (.func (.func gf) #[] cap.toArray) w') :
    Ok Proofs.Tryz.prog 194 #[.string s] w K:=by
  refine F194.enter (args:=[.string s]) (by simp) ?_
  unfold c194 r194
  by_cases h0 : s.size = 0
  · have b : (s.toList == (⟨#[]⟩ : ByteArray).toList) = true:=by
      rw [beq_iff_eq,ByteArray.toList_eq,ByteArray.toList_eq]
      have : s.data.toList = []:=List.eq_nil_of_length_eq_zero (by rw [Array.length_toList]; exact h0)
      rw [this]
    simp only [ZB,endK,resK,packed,insVc,sopK,sopV,ne_eq,reduceCtorEq,Zab,Za,Zaa,b]
    refine h w _ [] (fun _=>False) (Mod.refl _ _) (fun _ x=>x.elim) ?_
    have : wordsV (wordsR s) = []:=by unfold wordsR; rw [if_pos h0]; rfl
    rw [this]
    exact iterX_mono (IterX.of (words_none (fun _=>True))) (fun _ _=>trivial) (fun _ _=>trivial)
  · have b : (s.toList == (⟨#[]⟩ : ByteArray).toList) = false:=by
      rw [beq_eq_false_iff_ne,ByteArray.toList_eq,ByteArray.toList_eq]
      intro e
      have:=congrArg List.length e
      rw [Array.length_toList] at this
      exact h0 this
    simp only [ZB,insVc,sopK,sopV,ne_eq,reduceCtorEq,Zab,Zad,Zae,Za,b]
    refine F218.enter (args:=[_,_]) (by simp) ?_
    unfold c218 r218
    simp only [ZB,insVc,ne_eq,Nat.reduceEqDiff,reduceCtorEq,Zab,Zad,Zae,Za,Zaf]
    refine F236.enter (args:=[_,_,_]) (by simp) ?_
    unfold c236 r236
    simp only [ZB,endK,resK,packed,insVc,Value.cells,ne_eq,Nat.reduceEqDiff,Nat.reduceAdd,Zab,Zad,Zae,Za,Zaf,Zaa,Zaq,Nat.reduceAdd,Nat.reduceEqDiff]
    have hm : Mod (fun _=>False) w (((w.alloc (.cells #[.string s] 9)).alloc (.cells #[.string ⟨#[46]⟩] 9)).alloc (.cells #[.int .i64 0] 3)):=(((Mod.refl _ _).alloc _).alloc _).alloc _
    refine h _ _ [ptr (w.heap.size + 1),ptr w.heap.size,ptr (w.heap.size + 2)] (fun k=>k = w.heap.size) hm ?_ ?_
    · rintro k rfl
      have:=hm.size
      simp only [size_alloc] at this ⊢
      omega
    · have : wordsV (wordsR s) = wordsV (splitL s.data.toList):=by unfold wordsR; rw [if_neg h0]
      rw [this]
      refine iterX_mono (splitSeq1_c (w.heap.size + 1) w.heap.size (w.heap.size + 2) s hs) ?_ ?_
      · intro u hu
        exact hu.at (by simp only [Nat.reduceAdd,reduceCtorEq,Zac,Zag,size_alloc,get_alloc,size_alloc,Zaq,Nat.reduceAdd,Zbl,Zbi]) (Nat.le_refl _)
      · rintro u ⟨_,hu⟩
        refine ⟨(hu _ (by omega) (by simp only [size_alloc]; omega) (by omega)).trans (by simp only [Nat.reduceEqDiff,Nat.reduceAdd,Zac,Zag,size_alloc,get_alloc,size_alloc,Zaq,Nat.reduceAdd,Zbm,Zbj,Nat.reduceEqDiff,Zbi]),(hu _ (by omega) (by simp only [size_alloc]; omega) (by omega)).trans (by simp only [Nat.reduceEqDiff,Nat.reduceAdd,reduceCtorEq,Zac,Zag,size_alloc,get_alloc,size_alloc,Zaq,Nat.reduceAdd,Zbm,Zbj,Nat.reduceEqDiff])⟩
def allB (p : ByteArray→Bool) (l : List (List UInt8)) : Bool:=decide (l.length≤8) && l.all fun x=>p ⟨x.toArray⟩
theorem wordsV_len (l : List (List UInt8)) : (wordsV l).length = l.length:=by simp [wordsV]
theorem tall_c (s : ByteArray) (p : ByteArray→Bool) (g : FuncId) (hp : ∀ (x : ByteArray) (w : World) (G : Value→World→Prop),(∀ w',Mod (fun _=>False) w w'→G (.bool (p x)) w')→Ok Proofs.Tryz.prog g #[.string x] w G)
    (hs : s.size < 2 ^ 40) (w : World) (K : Value→World→Prop) (h : ∀ w',Mod (fun _=>False) w w'→K (.bool (allB p (wordsR s))) w') : Ok Proofs.Tryz.prog 149 #[.string s,.func (.func g) #[] #[]] w K:=by
  refine F149.enter (args:=[.string s,.func (.func g) #[] #[]]) (by simp) ?_
  unfold c149 r149
  simp only [ZB,insVc,storeK,isPlain,Value.cells,ne_eq,Nat.reduceEqDiff,Nat.reduceAdd,Nat.reduceLT,Nat.reduceLeDiff,reduceCtorEq,Zab,Zad,Zae,Za,Zaf,Zak,Zai,Zaj,Zal,Zam,Zac,Zag,Zao,get_alloc,Zaq,Nat.reduceAdd,Zbm,Zbj,Nat.reduceEqDiff,Nat.reduceLT]
  refine callK_gen ?_
  intro w1 hw1
  have hm1 : Mod (fun _=>False) w w1:=by rw [hw1]; exact ((((Mod.refl _ _).alloc _).alloc _).alloc _).set (.inl (by omega))
  have f1 : w1.heap[w.heap.size]? = some (.cells #[.func (.func g) #[] #[]] 46 (0,0)):=by rw [hw1]; simp only [Nat.reduceAdd,reduceCtorEq,and_true,Zac,Zag,size_alloc,Zao,get_alloc,get_set,size_alloc,Zaq,Nat.reduceAdd,Zbl,Zbi]
  have b1 : w1.heap[w.heap.size + 1]? = some (.cells #[.bool false] 4 (0,0)):=by rw [hw1]; simp only [Nat.reduceEqDiff,Nat.reduceAdd,and_true,Zac,Zag,size_alloc,Zao,get_alloc,get_set,size_alloc,Zaq,Nat.reduceAdd,Zbm,Zbj,Nat.reduceEqDiff,Zbi]
  have n1 : w1.heap[w.heap.size + 2]? = some (.cells #[.int .i64 0] 3 (0,0)):=by rw [hw1]; simp only [Nat.reduceAdd,size_alloc,Zbe,Zao,size_alloc,Zaq,Nat.reduceAdd]
  have hz1 : w1.heap.size = w.heap.size + 3:=by rw [hw1]; simp only [Nat.reduceAdd,size_set,size_alloc,size_alloc,size_set,Zaq,Nat.reduceAdd]
  clear hw1
  refine words_c s hs w1 _ ?_
  intro w2 gf cap X0 hm2 hX0 it
  revert it h
  generalize wordsR s = L
  intro h it
  have hm12:=hm1.trans hm2
  have hz2:=hm2.size
  have f2:=hm2.keep f1 id
  have b2:=hm2.keep b1 id
  have n2:=hm2.keep n1 id
  simp only [ZB]
  refine range_iterX (by kernel_rfl) (by kernel_rfl) (by kernel_rfl) (gf:=gf) (cap:=cap) (by simp only [ZB]) it (fun k hk=>(hX0 k hk).2) (fun w' hm'=>(Kept.refl _ _).keep hm' (fun _ _ _=>id))
    (fun i X u=>Mod (fun k=>k = w.heap.size + 2∨X0 k) w2 u∧u.heap[w.heap.size + 2]? = some (.cells #[.int .i64 ((i : Nat) : Int)] 3 (0,0))∧i≤8∧(L.take i).all (fun x=>p ⟨x.toArray⟩) = true)
    (fun c X u=>c = .ret∧Mod (fun k=>(k = w.heap.size + 1∨k = w.heap.size + 2)∨X0 k) w2 u∧u.heap[w.heap.size + 1]? = some (.cells #[.bool false] 4 (0,0))∧allB p L = false) ?_ ?_ ?_ ?_ ?_ ?_ ?_ ?_
  · intro X w' hm _ _
    exact ⟨hm.mono fun _ _ x=>x.elim,hm.keep n2 id,by omega,rfl⟩
  · rintro i X u ⟨k1,_⟩
    exact ⟨k1.size,fun k a b c=>k1.get k b (fun x=>by rcases x with x | x; omega; exact c x)⟩
  · rintro i X X' a b ⟨k1,k2,k3,k4⟩ hX ha hm hx
    refine ⟨k1.then hm (fun k hk x => ?_),hm.keep k2 (fun x => ?_),k3,k4⟩
    · rcases hX k x with y | y
      · exact .inr y
      · omega
    · rcases hX _ x with y | y
      · have:=(hX0 _ y).1; omega
      · omega
  · rintro c X X' a b ⟨rfl,k1,k2,k3⟩ hX ha hm hx
    refine ⟨rfl,k1.then hm (fun k hk x => ?_),hm.keep k2 (fun x => ?_),k3⟩
    · rcases hX k x with y | y
      · exact .inr y
      · omega
    · rcases hX _ x with y | y
      · have:=(hX0 _ y).1; omega
      · omega
  · intro i hi
    rw [List.getElem?_eq_getElem hi]
    simp [wordsV]
  · intro i hi X a ⟨k1,k2,k3,k4⟩ hX ha
    have hil : i < L.length:=by rw [wordsV_len] at hi; exact hi
    obtain ⟨x,hx⟩ : ∃ x,L[i]? = some x:=⟨L[i],List.getElem?_eq_getElem hil⟩
    have hrow : ((wordsV L)[i]?.getD []) = [.string ⟨x.toArray⟩]:=by simp [wordsV,hx]
    have htk : L.take (i + 1) = L.take i ++ [x]:=by rw [List.take_add_one,hx]; rfl
    have hwi : IntKind.i64.wrap ((i : Int) + 1) = ((i + 1 : Nat) : Int):=by rw [wrap_i64 _ (by omega)]; omega
    rw [hrow]
    simp only [ZB,insVc,load1K,ne_eq,Nat.reduceEqDiff,Nat.reduceLeDiff,updMany]
    refine ⟨Mod.refl _ _, ?_⟩
    rintro c hmc ⟨q1,q2,q3,q4⟩
    have l2:=lt_of_get q2
    have hge : ∀ k,X k→(X0 k∨w2.heap.size≤k)∧k < c.heap.size:=fun k hk=>⟨(hX k hk).1,Nat.lt_of_lt_of_le (hX k hk).2 hmc.size⟩
    have nX : ∀ j,w.heap.size≤j→j < w.heap.size + 3→¬ X j:=by
      intro j h1 h2 x
      rcases (hX j x).1 with y | y
      · have:=(hX0 _ y).1; omega
      · omega
    obtain ⟨c1,hc1⟩ : ∃ c1,c1 = Vc.set c (w.heap.size + 2) (.cells #[.int .i64 ((i + 1 : Nat) : Int)] 3):=⟨_,rfl⟩
    have hmc1 : Mod (fun k=>k = w.heap.size + 2) c c1:=by rw [hc1]; exact (Mod.refl _ _).set (.inr rfl)
    have n3 : c1.heap[w.heap.size + 2]? = some (.cells #[.int .i64 ((i + 1 : Nat) : Int)] 3 (0,0)):=by rw [hc1]; exact get_set_same _ _ _ l2
    have fc:=q1.keep f2 (fun x=>by rcases x with x | x; omega; (have:=(hX0 _ x).1; omega))
    have bc:=q1.keep b2 (fun x=>by rcases x with x | x; omega; (have:=(hX0 _ x).1; omega))
    have f3:=hmc1.keep fc (by omega)
    have b3:=hmc1.keep bc (by omega)
    simp only [ZB,insVc,load1K,storeK,iopK,iopV,isPlain,ne_eq,Nat.reduceEqDiff,Nat.reduceLT,Nat.reduceLeDiff,reduceCtorEq,Za,Zah,Zak,Zai,Zaj,Zal,Zam,Zao,q2,hwi]
    rw [← hc1]
    have stop : ∀ u : World,Mod (fun _=>False) c1 u→allB p L = false→(c.heap.size≤(Vc.set u (w.heap.size + 1) (.cells #[.bool false] 4)).heap.size∧∀ k,X k→(Vc.set u (w.heap.size + 1) (.cells #[.bool false] 4)).heap[k]? = c.heap[k]?) ∧
        (Mod (fun k=>(k = w.heap.size + 1∨k = w.heap.size + 2)∨X0 k) w2 (Vc.set u (w.heap.size + 1) (.cells #[.bool false] 4))∧(Vc.set u (w.heap.size + 1) (.cells #[.bool false] 4)).heap[w.heap.size + 1]? = some (.cells #[.bool false] 4 (0,0))):=by
      intro u hmu hall
      have hms : Mod (fun k=>k = w.heap.size + 1∨k = w.heap.size + 2) c (Vc.set u (w.heap.size + 1) (.cells #[.bool false] 4)):=((hmc1.mono fun _ _ x=>.inr x).then hmu (fun _ _ x=>x.elim)).set (.inr (.inl rfl))
      refine ⟨⟨hms.size,fun k hk=>hms.get k (hge k hk).2 (fun x=>nX k (by omega) (by omega) hk)⟩, ?_,get_set_same _ _ _ (lt_of_get (hmu.keep b3 id))⟩
      exact (q1.mono fun k _ x=>x.elim (fun e=>.inl (.inr e)) .inr).then hms (fun k _ x=>.inl x)
    by_cases h8 : i + 1 > 8
    · have d8 : ((i + 1 : Nat) : Int) > 8:=by omega
      have hall : allB p L = false:=by unfold allB; rw [decide_eq_false (by omega)]; rfl
      simp only [ZB,insVc,pickK,storeK,iopK,iopV,isPlain,ne_eq,Nat.reduceEqDiff,Nat.reduceLT,Nat.reduceLeDiff,reduceCtorEq,Za,Zah,Zak,Zai,Zaj,Zal,Zam,Zac,Zao,n3,d8,b3]
      obtain ⟨s1,s2,s3⟩:=stop c1 (Mod.refl _ _) hall
      simp only [size_set] at s1
      exact ⟨s1,.inr ⟨.ret,.inl rfl,rfl,s2,s3,hall⟩⟩
    · have d8 : ¬ ((i + 1 : Nat) : Int) > 8:=by omega
      simp only [ZB,insVc,load1K,iopK,iopV,callvK,ne_eq,Nat.reduceEqDiff,reduceCtorEq,Zad,Zae,Za,Zah,Zaa,Zbr,n3,d8,f3]
      refine hp _ c1 _ ?_
      intro c2 hm2'
      have b4:=hm2'.keep b3 id
      have n4:=hm2'.keep n3 id
      cases hpx : p ⟨x.toArray⟩ with
      | false =>
        have hall : allB p L = false:=by
          unfold allB
          have : (L.all fun x=>p ⟨x.toArray⟩) = false:=by
            rw [Bool.eq_false_iff]
            intro e
            have:=List.all_eq_true.1 e x (List.mem_of_getElem? hx)
            rw [hpx] at this; cases this
          rw [this,Bool.and_false]
        simp only [ZB,insVc,pickK,storeK,notK,isPlain,ne_eq,Nat.reduceEqDiff,Nat.reduceLT,Nat.reduceLeDiff,reduceCtorEq,Zak,Zai,Zaj,Zal,Zam,Zag,Zao,b4]
        obtain ⟨s1,s2,s3⟩:=stop c2 hm2' hall
        simp only [size_set] at s1
        exact ⟨s1,.inr ⟨.ret,.inl rfl,rfl,s2,s3,hall⟩⟩
      | true =>
        simp only [ZB,insVc,pickK,notK,ne_eq,Nat.reduceEqDiff,reduceCtorEq,Zag]
        have hms : Mod (fun k=>k = w.heap.size + 2) c c2:=hmc1.then hm2' (fun _ _ x=>x.elim)
        refine ⟨⟨hms.size,fun k hk=>hms.get k (hge k hk).2 (fun x=>nX k (by omega) (by omega) hk)⟩,.inl ⟨q1.then hms (fun k _ x=>.inl x),n4,by omega, ?_⟩⟩
        rw [htk,List.all_append,q4,List.all_cons,hpx]; rfl
  · rintro X u ⟨k1,k2,k3,k4⟩ ⟨a1,a2,a3⟩
    rw [wordsV_len] at k3 k4
    rw [List.take_length] at k4
    have hall : allB p L = true:=by unfold allB; rw [k4,decide_eq_true k3]; rfl
    have bu:=k1.keep b2 (fun x=>by rcases x with x | x; omega; (have:=(hX0 _ x).1; omega))
    have hmS : Mod (fun k=>k = w.heap.size + 1) u (Vc.set u (w.heap.size + 1) (.cells #[.bool true] 4)):=(Mod.refl _ _).set (.inr rfl)
    have d2:=hmS.keep a1 (by omega)
    have hmD : Mod (fun k=>k = w2.heap.size) (Vc.set u (w.heap.size + 1) (.cells #[.bool true] 4)) (Vc.set (Vc.set u (w.heap.size + 1) (.cells #[.bool true] 4)) w2.heap.size (.deferred none)):=(Mod.refl _ _).set (.inr rfl)
    simp only [ZB,endK,resK,res1,packed,insVc,storeK,isPlain,ne_eq,Nat.reduceEqDiff,Nat.reduceLT,Nat.reduceLeDiff,Zak,Zai,Zaj,Zal,Zam,Zaa,Zao,bu,markO,d2,hmD.keep (get_set_same u (w.heap.size + 1) (.cells #[.bool true] 4 (0,0)) (lt_of_get bu)) (by omega)]
    rw [hall] at h
    refine h _ (((hm12.then k1 (fun k hk x => ?_)).then hmS (fun k hk x=>by omega)).then hmD (fun k hk x=>by omega))
    rcases x with x | x
    · omega
    · have:=(hX0 _ x).1; omega
  · rintro c X u ⟨rfl,k1,k2,k3⟩ ⟨a1,a2,a3⟩
    have hmD : Mod (fun k=>k = w2.heap.size) u (Vc.set u w2.heap.size (.deferred none)):=(Mod.refl _ _).set (.inr rfl)
    simp only [ZB,exitOf,endK,resK,res1,packed,ne_eq,Nat.reduceEqDiff,Zaa,markO,a1,hmD.keep k2 (by omega)]
    rw [k3] at h
    refine h _ ((hm12.then k1 (fun k hk x => ?_)).then hmD (fun k hk x=>by omega))
    rcases x with x | x
    · omega
    · have:=(hX0 _ x).1; omega
def keyW (s : ByteArray) : Bool:=allB nameB (wordsR s)
def patB (s : ByteArray) : Bool:=(s.toList == (⟨#[42]⟩ : ByteArray).toList) || (s.toList == (⟨#[35]⟩ : ByteArray).toList) || nameB s
def patW (s : ByteArray) : Bool:=allB patB (wordsR s)
theorem tkey_c (s : ByteArray) (hs : s.size < 2 ^ 40) (w : World) (K : Value→World→Prop) (h : ∀ w',Mod (fun _=>False) w w'→K (.bool (keyW s)) w') : Ok Proofs.Tryz.prog 85 #[.string s] w K:=by
  refine F85.enter (args:=[.string s]) (by simp) ?_
  unfold c85 r85
  simp only [ZB,insVc,ne_eq,reduceCtorEq,Zab,Zad,Zae,Za]
  refine tall_c s nameB _ (fun x w G hG=>name_c x w G hG) hs w _ ?_
  intro w' hm
  simp only [ZB,endK,resK,packed,insVc,Zaa]
  exact h w' hm
theorem pat1_c (s : ByteArray) (w : World) (K : Value→World→Prop) (h : ∀ w',Mod (fun _=>False) w w'→K (.bool (patB s)) w') : Ok Proofs.Tryz.prog 193 #[.string s] w K:=by
  refine F193.enter (args:=[.string s]) (by simp) ?_
  unfold c193 r193
  unfold patB at h
  cases h1 : (s.toList == (⟨#[42]⟩ : ByteArray).toList) with
  | true =>
    rw [h1] at h
    simp only [ZB,endK,resK,packed,insVc,pickK,sopK,sopV,ne_eq,Nat.reduceEqDiff,reduceCtorEq,Zab,Za,Zaa,Zac,h1]
    exact h w (Mod.refl _ _)
  | false =>
    cases h2 : (s.toList == (⟨#[35]⟩ : ByteArray).toList) with
    | true =>
      rw [h1,h2] at h
      simp only [ZB,endK,resK,packed,insVc,pickK,sopK,sopV,ne_eq,Nat.reduceEqDiff,reduceCtorEq,Zab,Za,Zaa,Zac,Zag,h1,h2]
      exact h w (Mod.refl _ _)
    | false =>
      rw [h1,h2] at h
      simp only [ZB,insVc,pickK,sopK,sopV,ne_eq,Nat.reduceEqDiff,reduceCtorEq,Zab,Zad,Zae,Za,Zag,h1,h2]
      refine name_c s w _ ?_
      intro w' hm
      simp only [ZB,endK,resK,packed,insVc,pickK,ne_eq,Nat.reduceEqDiff,Zaa,Zag]
      exact h w' hm
theorem tpat_c (s : ByteArray) (hs : s.size < 2 ^ 40) (w : World) (K : Value→World→Prop) (h : ∀ w',Mod (fun _=>False) w w'→K (.bool (patW s)) w') : Ok Proofs.Tryz.prog 148 #[.string s] w K:=by
  refine F148.enter (args:=[.string s]) (by simp) ?_
  unfold c148 r148
  simp only [ZB,insVc,ne_eq,reduceCtorEq,Zab,Zad,Zae,Za]
  refine tall_c s patB _ (fun x w G hG=>pat1_c x w G hG) hs w _ ?_
  intro w' hm
  simp only [ZB,endK,resK,packed,insVc,Zaa]
  exact h w' hm
def rightB (kind : Int) (s : ByteArray) : Bool:=if kind = 1 then keyW s else if kind = 2 then (s.toList == (⟨#[]⟩ : ByteArray).toList) else if kind = 3 then patW s else false
theorem right_c (kind : Int) (s : ByteArray) (hs : s.size < 2 ^ 40) (w : World) (K : Value→World→Prop) (h : ∀ w',Mod (fun _=>False) w w'→K (.bool (rightB kind s)) w') : Ok Proofs.Tryz.prog 83 #[.int .i64 kind,.string s] w K:=by
  refine F83.enter (args:=[.int .i64 kind,.string s]) (by simp) ?_
  unfold c83 r83
  unfold rightB at h
  by_cases h1 : kind = 1
  · subst h1
    simp only [ZB,insVc,iopK,iopV,ne_eq,Nat.reduceEqDiff,reduceCtorEq,Zab,Zad,Zae,Za,Zaf,Int.reduceBEq]
    refine tkey_c s hs w _ ?_
    intro w' hm
    simp only [ZB,endK,resK,packed,insVc,Zaa]
    exact h w' hm
  · have b1 : (kind == 1) = false:=by simpa using h1
    rw [if_neg h1] at h
    by_cases h2 : kind = 2
    · subst h2
      simp only [ZB,endK,resK,packed,insVc,iopK,iopV,sopK,sopV,ne_eq,Nat.reduceEqDiff,reduceCtorEq,Zab,Za,Zaf,Zaa,Int.reduceBEq,b1]
      exact h w (Mod.refl _ _)
    · have b2 : (kind == 2) = false:=by simpa using h2
      rw [if_neg h2] at h
      by_cases h3 : kind = 3
      · subst h3
        simp only [ZB,insVc,iopK,iopV,ne_eq,Nat.reduceEqDiff,reduceCtorEq,Zab,Zad,Zae,Za,Zaf,Int.reduceBEq,b1,b2]
        refine tpat_c s hs w _ ?_
        intro w' hm
        simp only [ZB,endK,resK,packed,insVc,Zaa]
        exact h w' hm
      · have b3 : (kind == 3) = false:=by simpa using h3
        rw [if_neg h3] at h
        simp only [ZB,endK,resK,packed,insVc,iopK,iopV,ne_eq,Nat.reduceEqDiff,reduceCtorEq,Zab,Za,Zaa,b1,b2,b3]
        exact h w (Mod.refl _ _)
end Go.Oct
namespace Go.Oct
open Go Go.Vc Go.VrA Go.VrF
set_option maxRecDepth 100000
def IsSl (w : World) (v : Value) (vs : List Value) : Prop :=
  (∃ a c,v = .slice a vs.length c)∧∀ (i : Nat) x,vs[i]? = some x→∃ b o c cur t f,v = .slice (some ⟨b,o,none⟩) vs.length c∧w.heap[b]? = some (.cells cur t f)∧cur[o + i]? = some x
theorem IsSl.mod {w w' : World} {S : Nat→Prop} {v : Value} {vs : List Value} (h : IsSl w v vs) (hm : Mod S w w') (hS : ∀ k,v.ownBlock = some k→¬ S k) : IsSl w' v vs :=
  ⟨h.1,fun i x hx=>by obtain ⟨b,o,c,cur,t,f,h1,h2,h3⟩:=h.2 i x hx; exact ⟨b,o,c,cur,t,f,h1,hm.keep h2 (hS b (by rw [h1]; rfl)),h3⟩⟩
theorem IsSl.keep {w w' : World} {v : Value} {vs : List Value} (h : IsSl w v vs) (hm : Mod (fun _=>False) w w') : IsSl w' v vs:=h.mod hm (fun _ _ x=>x)
theorem IsSl.nil (w : World) : IsSl w (.slice none 0 0) []:=⟨⟨none,0,rfl⟩,fun i x hx=>by simp at hx⟩
theorem IsSl.own {w : World} {B : Nat} {t : TypeId} {v : Value} {vs : List Value} (h : w.ownsRow B t 1 v vs.length vs) : IsSl w v vs:=by
  rcases h.2 with ⟨rfl,h0⟩ | ⟨g,cap,cur,rfl,_,hg,_,_,hs,hc⟩
  · have : vs = []:=List.length_eq_zero_iff.1 h0
    subst this; exact IsSl.nil w
  · refine ⟨⟨_,_,rfl⟩,fun i x hx=>⟨g,0,cap,cur,_,_,rfl,hg, ?_⟩⟩
    have hil:=(List.getElem?_eq_some_iff.1 hx).1
    have h1 : (cur.toList.take (vs.length * 1))[i]? = some x:=by rw [hc]; exact hx
    rw [List.getElem?_take,if_pos (by omega)] at h1
    simpa using h1
theorem rawK_make {P : Program} {go : Value→World→Prop} {ρ : Env} {ds : List Deferred} {nn : Nat} {o : Oper} {w : World} {t e : TypeId} {z : Value} {bytes n : Nat} {l c : Operand} {kl kc : IntKind}
    (ho : o.op = .makeSlice t l c) (hl : inB nn l = true) (hc : inB nn c = true) (ht : P.underlying t = some (.slice e)) (hinfo : (P.info? e).map (fun i=>(i.zero,i.size,i.bytes)) = some (some z,1,bytes)) (hz1 : z.cells = #[z])
    (el : ev ρ l = .int kl (n : Int)) (ec : ev ρ c = .int kc (n : Int)) (hb : bytes * n≤281474976710656) (h63 : n≤9223372036854775807)
    (h : go (.slice (some ⟨w.heap.size,0,none⟩) n n) (w.alloc (.cells (madeCells #[z] n) e))) : RawK P go ρ ds nn o w:=by
  unfold RawK
  have hr:=Go.run_make_row' (P:=P) t e z bytes ht hinfo hz1 kl kc n hb h63 w
  simp only [execOp,ho,Sem.run_bind,mkA_eval nn ρ ds l hl,mkA_eval nn ρ ds c hc,el,ec,hr,Result.andThen,pure,Sem.run]
  exact h
theorem info_st : (Proofs.Tryz.prog.info? 9).map (fun i=>(i.zero,i.size,i.bytes)) = some (some (.string ⟨#[]⟩),1,16):=by kernel_rfl
theorem append_st (B : Nat) (v : Value) (n : Nat) (xs : List Value) (x : ByteArray) (w : World) (hown : w.ownsRow B 9 1 v n xs) (hB : B≤w.heap.size) (hl : n < 2 ^ 20) (ty : TypeId) :
    ∃ v' w',(Builtin.append_ #[80,80] ty #[v,.slice (some ⟨w.heap.size,0,none⟩) 1 1]).run Proofs.Tryz.prog (w.alloc (.cells #[.string x] 9)) = .ok v' w' ∧
      w'.ownsRow B 9 1 v' (n + 1) (xs ++ [.string x])∧Mod (fun k=>v.ownBlock = some k) w w'∧(∀ k,v'.ownBlock = some k→v.ownBlock = some k∨w.heap.size≤k):=by
  obtain ⟨i,hi,hi1,hi2⟩:=info_of info_st
  have hm1 : Mod (fun _=>False) w (w.alloc (.cells #[.string x] 9)):=(Mod.refl _ _).alloc _
  have hown1 : (w.alloc (.cells #[.string x] 9)).ownsRow B 9 1 v n xs:=by
    obtain ⟨h1,h2⟩:=hown
    refine ⟨h1,h2.imp id ?_⟩
    rintro ⟨g,cap,cur,rfl,hB,hg,r⟩
    exact ⟨g,cap,cur,rfl,hB,hm1.keep hg id,r⟩
  have hsrc : Src Proofs.Tryz.prog 1 80 (.slice (some ⟨w.heap.size,0,none⟩) 1 1) 1 [.string x] (w.alloc (.cells #[.string x] 9)):=by
    refine Src.ofSlice _ (e':=9) (by kernel_rfl) ⟨w.heap.size,0,none⟩ 1 1 _ (by simp) ?_ ?_
    · intro j u hj
      have hgn:=get_alloc_new w (.cells #[.string x] 9)
      rw [List.getElem?_toArray.symm] at hj
      simp only [World.cell?,Addr.add_lit,Nat.zero_add,hgn]
      exact hj
    · intro u hu
      rw [List.mem_singleton.1 hu]; rfl
  obtain ⟨v',w',hr,ho,hm,hb⟩:=run_append_mine (P:=Proofs.Tryz.prog) B 80 80 ty 9 i _ 1 (by kernel_rfl) hi hi1 hi2.1 rfl (by decide) v n _ hown1 _ 1 _ hsrc (by simp [maxLen]; omega) (by rw [hi2.2]; omega) (Nat.le_trans hB hm1.size)
  refine ⟨v',w',hr,ho,(hm1.mono fun _ _ x=>x.elim).then hm (fun k _ hk=>hk), ?_⟩
  intro k hk
  rcases hb with hb | hb
  · exact .inl (hb ▸ hk)
  · rw [hb] at hk
    have : (w.alloc (.cells #[.string x] 9)).heap.size = k:=Option.some.inj hk
    rw [size_alloc] at this
    exact .inr (by omega)
theorem own_plain {w : World} {B n sz : Nat} {t : TypeId} {v : Value} {xs : List Value} (h : w.ownsRow B t sz v n xs) : isPlain v = true:=by
  rcases h.2 with ⟨rfl,_⟩ | ⟨g,cap,cur,rfl,_⟩ <;> rfl
theorem own_mod {w w' : World} {S : Nat→Prop} {B n sz : Nat} {t : TypeId} {v : Value} {xs : List Value} (h : w.ownsRow B t sz v n xs) (hm : Mod S w w') (hS : ∀ k,v.ownBlock = some k→¬ S k) : w'.ownsRow B t sz v n xs:=by
  obtain ⟨h1,h2⟩:=h
  refine ⟨h1,h2.imp id ?_⟩
  rintro ⟨g,cap,cur,rfl,hB,hg,r⟩
  exact ⟨g,cap,cur,rfl,hB,hm.keep hg (hS g rfl),r⟩
def stV (l : List (List UInt8)) : List Value:=l.map fun x=>.string ⟨x.toArray⟩
theorem collect_c (gf : FuncId) (cap : List Value) (L : List (List UInt8)) (X0 : Nat→Prop) (Pre F : World→Prop) (w : World) (K : Value→World→Prop) (it : IterX Proofs.Tryz.prog gf cap (wordsV L) X0 Pre F) (hX0 : ∀ k,X0 k→k < w.heap.size)
    (hPre : ∀ w',Mod (fun _=>False) w w'→Pre w') (hF : ∀ u,Mod X0 w u→F u) (hL : L.length < 2 ^ 20)
    (h : ∀ w' v,Mod X0 w w'→w'.ownsRow w.heap.size 9 1 v L.length (stV L)→K v w') :
    Ok Proofs.Tryz.prog 90 #[.func (.func gf) #[] cap.toArray] w K:=by
  refine F90.enter (args:=[.func (.func gf) #[] cap.toArray]) (by simp) ?_
  unfold c90 r90
  simp only [ZB,insVc,ne_eq,reduceCtorEq,Zab,Zad,Zae,Za]
  refine F156.enter (args:=[_,_]) (by simp) ?_
  unfold c156 r156
  simp only [ZB,insVc,Value.cells,ne_eq,Nat.reduceEqDiff,Zab,Za,Zaf,Nat.reduceEqDiff]
  refine vc_gen ?_
  intro w1 hw1
  have hm1 : Mod (fun _=>False) w w1:=by rw [hw1]; exact (Mod.refl _ _).alloc _
  have o1 : w1.heap[w.heap.size]? = some (.cells #[.slice none 0 0] 80 (0,0)):=by rw [hw1]; simp only [Zac,get_alloc]
  have hz1 : w1.heap.size = w.heap.size + 1:=by rw [hw1]; simp only [size_alloc,size_alloc]
  clear hw1
  refine range_iterX (by kernel_rfl) (by kernel_rfl) (by kernel_rfl) (gf:=gf) (cap:=cap) (by simp only [ZB]) it (fun k hk=>by have:=hX0 k hk; omega) (fun w' hm'=>hPre w' (hm1.trans hm'))
    (fun i X u=>Mod X0 w u∧∃ v,u.heap[w.heap.size]? = some (.cells #[v] 80 (0,0))∧u.ownsRow (w.heap.size + 1) 9 1 v (L.take i).length (stV (L.take i))∧(∀ k,v.ownBlock = some k→¬ X k))
    (fun _ _ _=>False) ?_ ?_ ?_ ?_ ?_ ?_ ?_ ?_
  · intro X w' hm _ hX
    exact ⟨(hm1.trans hm).mono fun _ _ x=>x.elim,_,hm.keep o1 id,World.ownsRow_nil _ _ _ 1,fun k hk=>by cases hk⟩
  · rintro i X u ⟨k1,_⟩
    exact hF u k1
  · rintro i X X' a b ⟨k1,v,k2,k3,k4⟩ hX ha hm hx
    refine ⟨k1.then hm (fun k hk x => ?_),v,hm.keep k2 (fun x => ?_),own_mod k3 hm k4, ?_⟩
    · rcases hX k x with y | y
      · exact y
      · omega
    · rcases hX _ x with y | y
      · have:=hX0 _ y; omega
      · omega
    · intro k hk hx'
      rcases hx k hx' with hx' | hx'
      · exact k4 k hk hx'
      · have:=(World.ownsRow.lt k3 k hk).2
        omega
  · rintro c X X' a b k1; exact k1.elim
  · intro i hi
    rw [List.getElem?_eq_getElem hi]
    simp [wordsV]
  · intro i hi X a ⟨k1,v,k2,k3,k4⟩ hX ha
    have hil : i < L.length:=by rw [wordsV_len] at hi; exact hi
    obtain ⟨x,hx⟩ : ∃ x,L[i]? = some x:=⟨L[i],List.getElem?_eq_getElem hil⟩
    have hrow : ((wordsV L)[i]?.getD []) = [.string ⟨x.toArray⟩]:=by simp [wordsV,hx]
    have htk : L.take (i + 1) = L.take i ++ [x]:=by rw [List.take_add_one,hx]; rfl
    rw [hrow]
    simp only [ZB,insVc,load1K,ne_eq,Nat.reduceEqDiff,updMany]
    refine ⟨Mod.refl _ _, ?_⟩
    rintro c hmc ⟨q1,v',q2,q3,q4⟩
    have hge : ∀ k,X k→(X0 k∨w1.heap.size≤k)∧k < c.heap.size:=fun k hk=>⟨(hX k hk).1,Nat.lt_of_lt_of_le (hX k hk).2 hmc.size⟩
    have hzc : w.heap.size + 1≤c.heap.size:=by have:=lt_of_get q2; omega
    have hob : ∀ k,v'.ownBlock = some k→w.heap.size + 1≤k∧k < c.heap.size:=fun k hk=>World.ownsRow.lt q3 k hk
    have nX : ¬ X w.heap.size:=fun x=>by rcases (hge _ x).1 with y | y; (have:=hX0 _ y; omega); omega
    obtain ⟨v5,w5,hr5,ho5,hm5,hb5⟩:=append_st (w.heap.size + 1) v' (L.take i).length _ ⟨x.toArray⟩ c q3 hzc (by rw [List.length_take]; omega) 80
    simp only [ZB,insVc,fillL,buildSK,Value.cells,ne_eq,Nat.reduceEqDiff,Nat.reduceLeDiff,Za,Zah,Zak,Zai,Zaj,Zbc,Zbd,Zba,Zbb,Zal,Zam,Zbf,Zac,q2]
    refine rawK_append rfl rfl rfl (by simp only [ZB,ne_eq,Nat.reduceEqDiff]; exact hr5) ?_
    have q2':=hm5.keep q2 (fun x=>by have:=hob _ x; omega)
    have hm6 : Mod (fun k=>k = w.heap.size) w5 (Vc.set w5 w.heap.size (.cells #[v5] 80 (0,0))):=(Mod.refl _ _).set (.inr rfl)
    have hm56 : Mod (fun k=>v'.ownBlock = some k∨k = w.heap.size) c (Vc.set w5 w.heap.size (.cells #[v5] 80 (0,0))):=(hm5.mono fun _ _ x=>.inl x).then hm6 (fun k _ hk=>.inr hk)
    have hms:=hm5.size
    simp only [ZB,insVc,storeK,isPlain,ne_eq,Nat.reduceEqDiff,Nat.reduceLT,Nat.reduceLeDiff,reduceCtorEq,Zak,Zai,Zaj,Zal,Zam,Zao,q2']
    refine ⟨own_plain ho5,⟨hms,fun k hk=>hm56.get k (hge k hk).2 (by rintro (x | rfl); exact q4 k x hk; exact nX hk)⟩,.inl ⟨q1.then hm56 (fun k hk x => ?_),v5,get_set_same _ _ _ (lt_of_get q2'), ?_, ?_⟩⟩
    · rcases x with x | x
      · have:=hob k x; omega
      · omega
    · refine own_mod ?_ hm6 (fun k hk x => ?_)
      · rw [htk]
        have e1 : stV (L.take i ++ [x]) = stV (L.take i) ++ [.string ⟨x.toArray⟩]:=by simp [stV]
        rw [e1,List.length_append]
        exact ho5
      · rcases hb5 k hk with y | y
        · have:=hob k y; omega
        · omega
    · intro k hk hxk
      rcases hb5 k hk with y | y
      · exact q4 k y hxk
      · have:=(hge k hxk).2; omega
  · rintro X u ⟨k1,v,k2,k3,k4⟩ ⟨a1,a2,a3⟩
    rw [wordsV_len,List.take_length] at k3
    have hmD : Mod (fun k=>k = w1.heap.size) u (Vc.set u w1.heap.size (.deferred none)):=(Mod.refl _ _).set (.inr rfl)
    have hvD : ∀ k,v.ownBlock = some k→¬ k = w1.heap.size:=by
      intro k hk x
      subst x
      rcases k3.2 with ⟨rfl,_⟩ | ⟨g,cap,cur,rfl,_,hg,_⟩
      · cases hk
      · have hgk : g = w1.heap.size:=Option.some.inj hk
        rw [hgk,a1] at hg
        cases hg
    simp only [ZB,endK,resK,packed,insVc,load1K,ne_eq,Nat.reduceEqDiff,Za,Zah,Zaa,k2,markO,a1]
    have k3':=own_mod k3 hmD hvD
    refine h _ v (k1.then hmD (fun k hk x=>by omega)) ?_
    rcases k3'.2 with h0 | ⟨g,cap,cur,e1,e2,e3⟩
    · exact ⟨k3'.1,.inl h0⟩
    · exact ⟨k3'.1,.inr ⟨g,cap,cur,e1,by omega,e3⟩⟩
  · rintro c X u k1; exact k1.elim
end Go.Oct
namespace Go.Oct
open Go Go.Vc Go.VrA Go.VrF
set_option maxRecDepth 100000
def stepF (A : Nat→Bool) (part : List UInt8) (W : Nat→List UInt8) : Nat→Bool
  | 0=>if part = [35] then A 0 else false
  | i + 1=>if part = [35] then (A (i + 1) || stepF A part W i) else if part = [42] then A i else (A i && decide (W i = part))
def boV (n : Nat) (A : Nat→Bool) : List Value:=(List.range n).map fun i=>.bool (A i)
theorem boV_len (n : Nat) (A : Nat→Bool) : (boV n A).length = n:=by simp [boV]
theorem boV_get {n i : Nat} {A : Nat→Bool} (h : i < n) : (boV n A)[i]? = some (.bool (A i)):=by simp [boV,h]
theorem stV_len (l : List (List UInt8)) : (stV l).length = l.length:=by simp [stV]
theorem st_eq (a b : ByteArray) : (a.toList == b.toList) = decide (a.data.toList = b.data.toList):=by
  rw [ByteArray.toList_eq,ByteArray.toList_eq]
  by_cases h : a.data.toList = b.data.toList
  · rw [h]; simp
  · rw [decide_eq_false h,beq_eq_false_iff_ne]; exact h
theorem step_c (A : Nat→Bool) (part : ByteArray) (L : List (List UInt8)) (va vw : Value) (w : World) (K : Value→World→Prop) (hA : IsSl w va (boV (L.length + 1) A)) (hW : IsSl w vw (stV L)) (hL : L.length < 2 ^ 20)
    (h : ∀ w' v,Mod (fun _=>False) w w'→IsSl w' v (boV (L.length + 1) (stepF A part.data.toList fun i=>(L[i]?).getD []))→(∀ k,v.ownBlock = some k→w.heap.size≤k)→K v w') :
    Ok Proofs.Tryz.prog 197 #[va,.string part,vw] w K:=by
  obtain ⟨⟨aa,ca,rfl⟩,hat⟩:=hA
  obtain ⟨⟨aw,cw,rfl⟩,hwt⟩:=hW
  rw [boV_len] at hat ⊢
  rw [stV_len] at hwt ⊢
  refine F197.enter (args:=[.slice aa (L.length + 1) ca,.string part,.slice aw L.length cw]) (by simp) ?_
  unfold c197 r197
  have hw1 : IntKind.i64.wrap ((L.length : Int) + 1) = ((L.length + 1 : Nat) : Int):=by rw [wrap_i64 _ (by omega)]; omega
  simp only [ZB,insVc,iopK,iopV,lenLK,ne_eq,Nat.reduceEqDiff,reduceCtorEq,Zab,Za,Zaf,hw1]
  refine rawK_make (n:=L.length + 1) (z:=.bool false) (bytes:=1) (e:=4) rfl rfl rfl (by kernel_rfl) (by kernel_rfl) rfl rfl rfl (by omega) (by omega) ?_
  simp only [ZB,insVc,lenLK]
  obtain ⟨S,hS⟩ : ∃ S,S = stepF A part.data.toList fun i=>(L[i]?).getD []:=⟨_,rfl⟩
  rw [← hS] at h
  refine vc_loop (fun mm ρ ds u => ∃ (i : Nat) (cur : Array Value),i≤L.length + 1∧mm = L.length + 1 - i∧ds = []∧ρ 0 = .slice aa (L.length + 1) ca∧ρ 1 = .string part∧ρ 2 = .slice aw L.length cw∧ρ 7 = .slice (some ⟨w.heap.size,0,none⟩) (L.length + 1) (L.length + 1) ∧
    ρ 14 = .int .i64 ((L.length + 1 : Nat) : Int)∧ρ 15 = .int .i64 i∧Mod (fun _=>False) w u∧u.heap[w.heap.size]? = some (.cells cur 4 (0,0))∧cur.size = L.length + 1∧∀ j,j < i→cur[j]? = some (.bool (S j))) (L.length + 1 - 0) ?_ ?_
  · exact ⟨0,madeCells #[.bool false] (L.length + 1),Nat.zero_le _,rfl,rfl,by simp only [ZB,ne_eq,reduceCtorEq,Zab,Za],by simp only [ZB,ne_eq,Nat.reduceEqDiff,Zab,Za,Zaf],by simp only [ZB,ne_eq,Nat.reduceEqDiff,Zab,Za,Zaf],by simp only [ZB,ne_eq,Nat.reduceEqDiff],by simp only [ZB,ne_eq,Nat.reduceEqDiff],by simp only [ZB]; rfl,(Mod.refl _ _).alloc _,get_alloc_new _ _,size_madeCells _ _,fun j hj=>by omega⟩
  · rintro mm ρ ds u ⟨i,cur,hi,rfl,rfl,g0,g1,g2,g7,g14,g15,hmu,hcu,hcs,hset⟩
    by_cases c1 : i < L.length + 1
    · have d1 : (i : Int) < ((L.length + 1 : Nat) : Int):=by omega
      have hi0 : (0 : Int)≤(i : Int)∧(i : Int) < ((L.length + 1 : Nat) : Int):=by omega
      have hwi : IntKind.i64.wrap ((i : Int) + 1) = ((i + 1 : Nat) : Int):=by rw [wrap_i64 _ (by omega)]; omega
      obtain ⟨ba,oa,cca,cura,ta,fa,hea,hba,hca⟩:=hat i _ (boV_get c1)
      have haa : aa = some ⟨ba,oa,none⟩:=by simpa using congrArg (fun x=>match x with | .slice a _ _=>a | _=>none) hea
      subst haa
      have hca' : ∀ j,j < L.length + 1→cura[oa + j]? = some (.bool (A j)):=by
        intro j hj
        obtain ⟨b',o',c',cur',t',f',he',hb',hc'⟩:=hat j _ (boV_get hj)
        simp only [Value.slice.injEq,Option.some.injEq,Addr.mk.injEq] at he'
        obtain ⟨⟨rfl,rfl,_⟩,_,_⟩:=he'
        rw [hba] at hb'
        simp only [Option.some.injEq,Obj.cells.injEq] at hb'
        rw [hb'.1]; exact hc'
      have hbu:=hmu.keep hba id
      have hfz : ∀ x : Nat,(decide ((0 : Nat)≤x) && decide (x < 0)) = false:=fun x=>by simp
      have hlc : i < cur.size:=by omega
      have hlt:=lt_of_get hcu
      have close : ∀ b : Bool,b = S i→Mod (fun _=>False) w (Vc.set u w.heap.size (.cells (cur.setIfInBounds i (.bool b)) 4))∧(Vc.set u w.heap.size (.cells (cur.setIfInBounds i (.bool b)) 4)).heap[w.heap.size]? = some (.cells (cur.setIfInBounds i (.bool b)) 4 (0,0)) ∧
          (cur.setIfInBounds i (.bool b)).size = L.length + 1∧∀ j,j < i + 1→(cur.setIfInBounds i (.bool b))[j]? = some (.bool (S j)):=by
        intro b hb
        refine ⟨hmu.set (.inl (Nat.le_refl _)),get_set_same _ _ _ hlt,by rw [Array.size_setIfInBounds]; exact hcs, ?_⟩
        intro j hj
        rw [Array.getElem?_setIfInBounds]
        by_cases e : i = j
        · subst e
          rw [if_pos rfl,if_pos hlc,hb]
        · rw [if_neg e]
          exact hset j (by omega)
      have hS1 : S i = stepF A part.data.toList (fun i=>(L[i]?).getD []) i:=by rw [hS]
      have p35:=st_eq part ⟨#[35]⟩
      have p42:=st_eq part ⟨#[42]⟩
      have e35 : (⟨#[35]⟩ : ByteArray).data.toList = [35]:=rfl
      have e42 : (⟨#[42]⟩ : ByteArray).data.toList = [42]:=rfl
      rw [e35] at p35
      rw [e42] at p42
      have ca0:=hca' i c1
      cases i with
      | zero =>
        have z0 : ¬ ((0 : Nat) : Int) > 0:=by decide
        rw [Nat.add_zero] at ca0
        by_cases h35 : part.data.toList = [35]
        · rw [decide_eq_true h35] at p35
          have hSi : S 0 = A 0:=by rw [hS1]; simp [stepF,h35]
          cases hA0 : A 0 with
          | true =>
            rw [hA0] at ca0 hSi
            obtain ⟨f1,f2,f3,f4⟩:=close true hSi.symm
            simp only [ZB,insVc,pickK,load1K,storeK,iopK,iopV,sopK,sopV,iaddrK,isPlain,ne_eq,Nat.reduceEqDiff,Nat.reduceLeDiff,reduceCtorEq,Zac,Zax,Zbh,Zaw,g0,g1,g2,g7,g14,g15,d1,hi0,p35,hbu,ca0,hcu,hlc,Zce,hwi]
            exact ⟨L.length + 1 - 1,by omega,1,_,by omega,rfl,rfl,f1,f2,f3,f4⟩
          | false =>
            rw [hA0] at ca0 hSi
            obtain ⟨f1,f2,f3,f4⟩:=close false hSi.symm
            simp only [ZB,insVc,pickK,load1K,storeK,iopK,iopV,sopK,sopV,iaddrK,isPlain,ne_eq,Nat.reduceEqDiff,Nat.reduceLeDiff,reduceCtorEq,Zag,Zax,Zbh,Zaw,g0,g1,g2,g7,g14,g15,d1,hi0,p35,hbu,ca0,z0,hcu,hlc,Zce,hwi]
            exact ⟨L.length + 1 - 1,by omega,1,_,by omega,rfl,rfl,f1,f2,f3,f4⟩
        · rw [decide_eq_false h35] at p35
          have hSi : S 0 = false:=by rw [hS1]; simp [stepF,h35]
          obtain ⟨f1,f2,f3,f4⟩:=close false hSi.symm
          cases h42 : decide (part.data.toList = [42]) with
          | true =>
            rw [h42] at p42
            simp only [ZB,insVc,pickK,storeK,iopK,iopV,sopK,sopV,iaddrK,isPlain,ne_eq,Nat.reduceEqDiff,Nat.reduceLeDiff,reduceCtorEq,Zag,Zax,Zbh,Zaw,g0,g1,g2,g7,g14,g15,d1,hi0,p35,p42,z0,hcu,hlc,Zce,hwi]
            exact ⟨L.length + 1 - 1,by omega,1,_,by omega,rfl,rfl,f1,f2,f3,f4⟩
          | false =>
            rw [h42] at p42
            simp only [ZB,insVc,pickK,storeK,iopK,iopV,sopK,sopV,iaddrK,isPlain,ne_eq,Nat.reduceEqDiff,Nat.reduceLeDiff,reduceCtorEq,Zag,Zax,Zbh,Zaw,g0,g1,g2,g7,g14,g15,d1,hi0,p35,p42,z0,hcu,hlc,Zce,hwi]
            exact ⟨L.length + 1 - 1,by omega,1,_,by omega,rfl,rfl,f1,f2,f3,f4⟩
      | succ j =>
        have z0 : ((j + 1 : Nat) : Int) > 0:=by omega
        have hwj : IntKind.i64.wrap (((j + 1 : Nat) : Int) - 1) = (j : Int):=by rw [wrap_i64 _ (by omega)]; omega
        have hj0 : (0 : Int)≤(j : Int)∧(j : Int) < ((L.length + 1 : Nat) : Int):=by omega
        have hjw : (0 : Int)≤(j : Int)∧(j : Int) < ((L.length : Nat) : Int):=by omega
        have caj:=hca' j (by omega)
        have csj:=hset j (by omega)
        by_cases h35 : part.data.toList = [35]
        · rw [decide_eq_true h35] at p35
          have hSi : S (j + 1) = (A (j + 1) || S j):=by rw [hS]; simp [stepF,h35]
          cases hA0 : A (j + 1) with
          | true =>
            rw [hA0] at ca0 hSi
            obtain ⟨f1,f2,f3,f4⟩:=close true hSi.symm
            simp only [ZB,insVc,pickK,load1K,storeK,iopK,iopV,sopK,sopV,iaddrK,isPlain,ne_eq,Nat.reduceEqDiff,Nat.reduceLeDiff,reduceCtorEq,Zac,Zax,Zbh,g0,g1,g2,g7,g14,g15,d1,hi0,p35,hbu,ca0,hcu,hlc,Zce,hwi]
            exact ⟨L.length + 1 - (j + 1 + 1),by omega,j + 1 + 1,_,by omega,rfl,rfl,f1,f2,f3,f4⟩
          | false =>
            rw [hA0] at ca0 hSi
            have hSj : S j = S (j + 1):=by rw [hSi]; rfl
            rw [hSj] at csj
            obtain ⟨f1,f2,f3,f4⟩:=close (S (j + 1)) rfl
            simp only [ZB,insVc,pickK,load1K,storeK,iopK,iopV,sopK,sopV,iaddrK,isPlain,ne_eq,Nat.reduceEqDiff,Nat.reduceLeDiff,reduceCtorEq,Zac,Zag,Zax,Zbh,g0,g1,g2,g7,g14,g15,d1,hi0,p35,hbu,ca0,z0,hwj,hj0,csj,hcu,hlc,Zce,hwi]
            exact ⟨L.length + 1 - (j + 1 + 1),by omega,j + 1 + 1,_,by omega,rfl,rfl,f1,f2,f3,f4⟩
        · rw [decide_eq_false h35] at p35
          by_cases h42 : part.data.toList = [42]
          · rw [decide_eq_true h42] at p42
            have hSi : A j = S (j + 1):=by rw [hS]; simp [stepF,h42]
            rw [hSi] at caj
            obtain ⟨f1,f2,f3,f4⟩:=close (S (j + 1)) rfl
            simp only [ZB,insVc,pickK,load1K,storeK,iopK,iopV,sopK,sopV,iaddrK,isPlain,ne_eq,Nat.reduceEqDiff,Nat.reduceLeDiff,reduceCtorEq,Zac,Zax,Zbh,g0,g1,g2,g7,g14,g15,d1,hi0,p35,p42,hbu,z0,hwj,hj0,caj,hcu,hlc,Zce,hwi]
            exact ⟨L.length + 1 - (j + 1 + 1),by omega,j + 1 + 1,_,by omega,rfl,rfl,f1,f2,f3,f4⟩
          · rw [decide_eq_false h42] at p42
            obtain ⟨x,hx⟩ : ∃ x,L[j]? = some x:=⟨L[j],List.getElem?_eq_getElem (by omega)⟩
            have hSi : S (j + 1) = (A j && decide (x = part.data.toList)):=by rw [hS]; simp [stepF,h35,h42,hx]
            cases hAj : A j with
            | false =>
              rw [hAj] at caj hSi
              obtain ⟨f1,f2,f3,f4⟩:=close false hSi.symm
              simp only [ZB,insVc,pickK,load1K,storeK,iopK,iopV,sopK,sopV,iaddrK,isPlain,ne_eq,Nat.reduceEqDiff,Nat.reduceLeDiff,reduceCtorEq,Zac,Zag,Zax,Zbh,g0,g1,g2,g7,g14,g15,d1,hi0,p35,p42,hbu,z0,hwj,hj0,caj,hcu,hlc,Zce,hwi]
              exact ⟨L.length + 1 - (j + 1 + 1),by omega,j + 1 + 1,_,by omega,rfl,rfl,f1,f2,f3,f4⟩
            | true =>
              rw [hAj,Bool.true_and] at hSi
              rw [hAj] at caj
              obtain ⟨bw,ow,ccw,curw,tw,fw,hew,hbw,hcw⟩:=hwt j (.string ⟨x.toArray⟩) (by simp [stV,hx])
              have haw : aw = some ⟨bw,ow,none⟩:=by simpa using congrArg (fun x=>match x with | .slice a _ _=>a | _=>none) hew
              subst haw
              have hbwu:=hmu.keep hbw id
              have pw:=st_eq ⟨x.toArray⟩ part
              have ex : (⟨x.toArray⟩ : ByteArray).data.toList = x:=by simp
              rw [ex,← hSi] at pw
              obtain ⟨f1,f2,f3,f4⟩:=close (S (j + 1)) rfl
              simp only [ZB,insVc,pickK,load1K,storeK,iopK,iopV,sopK,sopV,iaddrK,isPlain,ne_eq,Nat.reduceEqDiff,Nat.reduceLeDiff,reduceCtorEq,Zac,Zax,Zbh,g0,g1,g2,g7,g14,g15,d1,hi0,p35,p42,hbu,z0,hwj,hj0,hjw,caj,hbwu,hcw,pw,hcu,hlc,Zce,hwi]
              exact ⟨L.length + 1 - (j + 1 + 1),by omega,j + 1 + 1,_,by omega,rfl,rfl,f1,f2,f3,f4⟩
    · have d1 : ¬ (i : Int) < ((L.length + 1 : Nat) : Int):=by omega
      have hie : i = L.length + 1:=by omega
      subst hie
      simp only [ZB,endK,resK,packed,insVc,iopK,iopV,ne_eq,Nat.reduceEqDiff,reduceCtorEq,Zaa,g7,g14,g15,d1]
      refine h u _ hmu ⟨⟨_,_,by rw [boV_len]⟩, ?_⟩ ?_
      · intro k x hk
        have hkl : k < L.length + 1:=by have:=(List.getElem?_eq_some_iff.1 hk).1; rw [boV_len] at this; exact this
        rw [boV_get hkl] at hk
        refine ⟨w.heap.size,0,_,cur,_,_,by rw [boV_len],hcu, ?_⟩
        rw [Nat.zero_add,hset k hkl]; exact hk
      · intro k hk
        have : w.heap.size = k:=Option.some.inj hk
        omega
end Go.Oct
namespace Go.Oct
open Go Go.Vc Go.VrA Go.VrF
set_option maxRecDepth 100000
theorem splitL_len : ∀ l : List UInt8,(splitL l).length≤l.length + 1:=by
  intro l
  induction l with
  | nil=>simp [splitL]
  | cons c r ih =>
    unfold splitL
    split
    · simp only [Zai]; omega
    · split
      · simp
      · rename_i w ws h
        rw [h] at ih
        simp only [Zai] at ih ⊢
        omega
theorem wordsR_len (s : ByteArray) : (wordsR s).length≤s.size + 1:=by
  unfold wordsR
  split
  · simp
  · have:=splitL_len s.data.toList
    rw [Array.length_toList] at this
    exact this
def atF (L : List (List UInt8)) : List (List UInt8)→(Nat→Bool)→Nat→Bool
  | [],A=>A
  | p :: ps,A=>atF L ps (stepF A p fun i=>(L[i]?).getD [])
theorem atF_snoc (L : List (List UInt8)) (x : List UInt8) : ∀ (Q : List (List UInt8)) (A : Nat→Bool),atF L (Q ++ [x]) A = stepF (atF L Q A) x fun i=>(L[i]?).getD []:=by
  intro Q
  induction Q with
  | nil=>intro A; rfl
  | cons q Q ih=>intro A; exact ih _
def at0 (i : Nat) : Bool:=decide (i = 0)
def matchB (pattern key : ByteArray) : Bool:=atF (wordsR key) (wordsR pattern) at0 (wordsR key).length
theorem IsSl.lt {w : World} {v : Value} {vs : List Value} (h : IsSl w v vs) (h0 : 0 < vs.length) : ∀ k,v.ownBlock = some k→k < w.heap.size:=by
  intro k hk
  obtain ⟨b,o,c,cur,t,f,rfl,hb,_⟩:=h.2 0 _ (List.getElem?_eq_getElem h0)
  have : b = k:=Option.some.inj hk
  rw [← this]; exact lt_of_get hb
theorem match_c (pattern key : ByteArray) (hp : pattern.size < 2 ^ 19) (hk : key.size < 2 ^ 19) (w : World) (K : Value→World→Prop) (h : ∀ w',Mod (fun _=>False) w w'→K (.bool (matchB pattern key)) w') :
    Ok Proofs.Tryz.prog 153 #[.string pattern,.string key] w K:=by
  refine F153.enter (args:=[.string pattern,.string key]) (by simp) ?_
  unfold c153 r153
  unfold matchB at h
  have hkl:=wordsR_len key
  have hpl:=wordsR_len pattern
  simp only [ZB,insVc,ne_eq,Nat.reduceEqDiff,Zab,Zad,Zae,Za,Zaf]
  refine words_c key (by omega) w _ ?_
  intro w1 gf1 cap1 X1 hm1 hX1 it1
  revert h it1 hkl hpl
  generalize hLe : wordsR key = L
  generalize hQe : wordsR pattern = Q
  intro h hkl hpl it1
  simp only [ZB,insVc,Zad,Zae]
  refine collect_c gf1 cap1 L X1 _ _ w1 _ it1 (fun k hk=>(hX1 k hk).2) (fun w' hm'=>(Kept.refl _ _).keep hm' (fun _ _ _=>id)) ?_ (by omega) ?_
  · intro u hu
    exact ⟨hu.size,fun k a b c=>hu.get k b c⟩
  intro w2 vw hm2 ho2
  have hm02 : Mod (fun _=>False) w w2:=hm1.then hm2 (fun k hk x=>by have:=(hX1 k x).1; omega)
  have hz1:=hm1.size
  have hz2:=hm2.size
  have hlv : (stV L).length = L.length:=stV_len L
  rw [← hlv] at ho2
  have hsw:=IsSl.own ho2
  have hvwp:=own_plain ho2
  have hwlt : ∀ k,vw.ownBlock = some k→k < w2.heap.size:=fun k hk=>(World.ownsRow.lt ho2 k hk).2
  obtain ⟨⟨aw,cw,hvw⟩,_⟩:=id hsw
  rw [stV_len] at hvw
  subst hvw
  have hw1 : IntKind.i64.wrap ((L.length : Int) + 1) = ((L.length + 1 : Nat) : Int):=by rw [wrap_i64 _ (by omega)]; omega
  simp only [ZB,insVc,load1K,storeK,iopK,iopV,lenLK,isPlain,Value.cells,ne_eq,Nat.reduceEqDiff,Nat.reduceLT,Nat.reduceLeDiff,reduceCtorEq,Za,Zah,Zak,Zai,Zaj,Zal,Zam,Zbg,Zbe,Zao,hw1]
  refine rawK_make (n:=L.length + 1) (z:=.bool false) (bytes:=1) (e:=4) rfl rfl rfl (by kernel_rfl) (by kernel_rfl) rfl rfl rfl (by omega) (by omega) ?_
  have hmc : ∀ j,j < L.length + 1→(madeCells #[.bool false] (L.length + 1))[j]? = some (.bool false):=by
    intro j hj
    simp [madeCells,hj,Nat.mod_one]
  have hsm:=size_madeCells #[.bool false] (L.length + 1)
  obtain ⟨cur,hcur⟩ : ∃ cur,cur = madeCells #[.bool false] (L.length + 1):=⟨_,rfl⟩
  rw [← hcur] at hmc hsm ⊢
  have hi0 : (0 : Int) < ((L.length + 1 : Nat) : Int):=by omega
  have hs0 : 0 < cur.size:=by omega
  simp only [ZB,insVc,load1K,storeK,iaddrK,isPlain,Value.cells,ne_eq,Nat.reduceEqDiff,Nat.reduceAdd,Nat.reduceLeDiff,reduceCtorEq,Zab,Zad,Zae,Za,Zah,Zak,Zai,Zaj,Zal,Zam,Zac,Zag,Int.reduceLE,Int.reduceToNat,Zbh,Zbe,Zao,get_alloc,get_set,Zaq,Nat.reduceAdd,Zbm,Zbj,Nat.reduceEqDiff,Zbi,hi0,hs0,Zce]
  refine callK_gen ?_
  intro w3 hw3
  have hm3 : Mod (fun _=>False) w2 w3:=by
    rw [hw3]
    exact (((((((Mod.refl _ _).alloc _).set (.inl (Nat.le_refl _))).alloc _).alloc _).set (.inl (by omega))).set (.inl (by omega)))
  have v3 : w3.heap[w2.heap.size]? = some (.cells #[.slice aw L.length cw] 80 (0,0)):=by rw [hw3]; simp only [Nat.reduceAdd,Nat.reduceLT,reduceCtorEq,and_true,Zag,size_set,size_alloc,Zbe,Zao,get_alloc,get_set,size_alloc,size_set,Zaq,Nat.reduceAdd,Zbl,Zcf,Nat.reduceLT,Zbi]
  have c3 : w3.heap[w2.heap.size + 1]? = some (.cells (cur.setIfInBounds 0 (.bool true)) 4 (0,0)):=by rw [hw3]; simp only [Nat.reduceAdd,Nat.reduceLT,size_set,size_alloc,Zbe,size_alloc,size_set,Zaq,Nat.reduceAdd,Zcf,Nat.reduceLT]
  have a3 : w3.heap[w2.heap.size + 2]? = some (.cells #[.slice (some ⟨w2.heap.size + 1,0,none⟩) (L.length + 1) (L.length + 1)] 277 (0,0)):=by rw [hw3]; simp only [Nat.reduceEqDiff,Nat.reduceAdd,Nat.reduceLT,and_true,Zag,size_set,size_alloc,Zbe,Zao,get_set,size_alloc,size_set,Zaq,Nat.reduceAdd,Zbm,Nat.reduceEqDiff,Zcf,Nat.reduceLT]
  have hz3 : w3.heap.size = w2.heap.size + 3:=by rw [hw3]; simp only [Nat.reduceAdd,size_set,size_alloc,size_alloc,size_set,Zaq,Nat.reduceAdd]
  clear hw3
  have hs3 : IsSl w3 (.slice (some ⟨w2.heap.size + 1,0,none⟩) (L.length + 1) (L.length + 1)) (boV (L.length + 1) at0):=by
    refine ⟨⟨_,_,by rw [boV_len]⟩, ?_⟩
    intro k x hk
    have hkl : k < L.length + 1:=by have:=(List.getElem?_eq_some_iff.1 hk).1; rw [boV_len] at this; exact this
    rw [boV_get hkl] at hk
    refine ⟨w2.heap.size + 1,0,_,_,_,_,by rw [boV_len],c3, ?_⟩
    rw [Nat.zero_add,Array.getElem?_setIfInBounds]
    by_cases e : 0 = k
    · subst e
      rw [if_pos rfl,if_pos hs0]; exact hk
    · rw [if_neg e,hmc k hkl,← hk]
      have : at0 k = false:=by unfold at0; exact decide_eq_false (fun x=>e x.symm)
      rw [this]
  have hm03:=hm02.trans hm3
  refine words_c pattern (by omega) w3 _ ?_
  rw [hQe]
  intro w4 gf cap X0 hm4 hX0 it
  have hm34:=hm4
  have hm04:=hm03.trans hm4
  have hz4:=hm4.size
  have v4:=hm4.keep v3 id
  have a4:=hm4.keep a3 id
  have hsw4:=(hsw.keep hm3).keep hm4
  have hs4:=hs3.keep hm4
  have hn0 : 0 < (boV (L.length + 1) at0).length:=by rw [boV_len]; omega
  simp only [ZB]
  refine range_iterX (by kernel_rfl) (by kernel_rfl) (by kernel_rfl) (gf:=gf) (cap:=cap) (by simp only [ZB]) it (fun k hk=>(hX0 k hk).2) (fun w' hm'=>(Kept.refl _ _).keep hm' (fun _ _ _=>id))
    (fun i X u=>Mod (fun k=>k = w2.heap.size + 2∨X0 k) w4 u∧∃ v,u.heap[w2.heap.size + 2]? = some (.cells #[v] 277 (0,0))∧IsSl u v (boV (L.length + 1) (atF L (Q.take i) at0))∧(∀ k,v.ownBlock = some k→¬ k = w2.heap.size + 2∧¬ X0 k∧¬ X k))
    (fun _ _ _=>False) ?_ ?_ ?_ ?_ ?_ ?_ ?_ ?_
  · intro X w' hm _ hX
    refine ⟨hm.mono fun _ _ x=>x.elim,_,hm.keep a4 id,hs4.keep hm,fun k hk => ?_⟩
    have hk' : w2.heap.size + 1 = k:=Option.some.inj hk
    refine ⟨by omega,fun x=>by have:=(hX0 _ x).1; omega,fun x => ?_⟩
    rcases hX k x with y | y
    · have:=(hX0 _ y).1; omega
    · omega
  · rintro i X u ⟨k1,_⟩
    exact ⟨k1.size,fun k a b c=>k1.get k b (fun x=>by rcases x with x | x; omega; exact c x)⟩
  · rintro i X X' a b ⟨k1,v,k2,k3,k4⟩ hX ha hm hx
    have hb0 : 0 < (boV (L.length + 1) (atF L (Q.take i) at0)).length:=by rw [boV_len]; omega
    refine ⟨k1.then hm (fun k hk x => ?_),v,hm.keep k2 (fun x => ?_),k3.mod hm (fun k hk=>(k4 k hk).2.2),fun k hk=>⟨(k4 k hk).1,(k4 k hk).2.1,fun x => ?_⟩⟩
    · rcases hX k x with y | y
      · exact .inr y
      · omega
    · rcases hX _ x with y | y
      · have:=(hX0 _ y).1; omega
      · omega
    · rcases hx k x with y | y
      · exact (k4 k hk).2.2 y
      · have:=k3.lt hb0 k hk; omega
  · rintro c X X' a b k1; exact k1.elim
  · intro i hi
    rw [List.getElem?_eq_getElem hi]
    simp [wordsV]
  · intro i hi X a ⟨k1,v,k2,k3,k4⟩ hX ha
    have hil : i < Q.length:=by rw [wordsV_len] at hi; exact hi
    obtain ⟨x,hx⟩ : ∃ x,Q[i]? = some x:=⟨Q[i],List.getElem?_eq_getElem hil⟩
    have hrow : ((wordsV Q)[i]?.getD []) = [.string ⟨x.toArray⟩]:=by simp [wordsV,hx]
    have htk : Q.take (i + 1) = Q.take i ++ [x]:=by rw [List.take_add_one,hx]; rfl
    rw [hrow]
    simp only [ZB,insVc,load1K,ne_eq,Nat.reduceEqDiff,updMany]
    refine ⟨Mod.refl _ _, ?_⟩
    rintro c hmc ⟨q1,v',q2,q3,q4⟩
    have hge : ∀ k,X k→(X0 k∨w4.heap.size≤k)∧k < c.heap.size:=fun k hk=>⟨(hX k hk).1,Nat.lt_of_lt_of_le (hX k hk).2 hmc.size⟩
    have nX : ∀ j,w2.heap.size≤j→j < w3.heap.size→¬ X j:=by
      intro j h1 h2 x
      rcases (hge j x).1 with y | y
      · have:=(hX0 _ y).1; omega
      · omega
    have vc:=q1.keep v4 (fun x=>by rcases x with x | x; omega; (have:=(hX0 _ x).1; omega))
    have swc:=hsw4.mod q1 (fun k hk x=>by have:=hwlt k hk; rcases x with x | x; omega; (have:=(hX0 _ x).1; omega))
    have l2:=lt_of_get q2
    simp only [ZB,insVc,load1K,ne_eq,Nat.reduceEqDiff,Zad,Zae,Za,Zah,q2,vc]
    refine step_c (atF L (Q.take i) at0) ⟨x.toArray⟩ L v' _ c _ q3 swc (by omega) ?_
    intro d v5 hmd hs5 hv5
    have ex : (⟨x.toArray⟩ : ByteArray).data.toList = x:=by simp
    rw [ex,← atF_snoc,← htk] at hs5
    have q2':=hmd.keep q2 id
    have hm6 : Mod (fun k=>k = w2.heap.size + 2) d (Vc.set d (w2.heap.size + 2) (.cells #[v5] 277 (0,0))):=(Mod.refl _ _).set (.inr rfl)
    have hm56 : Mod (fun k=>k = w2.heap.size + 2) c (Vc.set d (w2.heap.size + 2) (.cells #[v5] 277 (0,0))):=(hmd.mono fun _ _ x=>x.elim).trans hm6
    have hv5p : isPlain v5 = true:=by obtain ⟨⟨_,_,rfl⟩,_⟩:=hs5; rfl
    have hds:=hmd.size
    have hcz : w4.heap.size≤c.heap.size:=q1.size
    simp only [ZB,insVc,storeK,isPlain,ne_eq,Nat.reduceEqDiff,Nat.reduceLT,Nat.reduceLeDiff,reduceCtorEq,Zak,Zai,Zaj,Zal,Zam,Zao,q2']
    refine ⟨hv5p,⟨hds,fun k hk=>hm56.get k (hge k hk).2 (fun e=>nX k (by omega) (by omega) hk)⟩,.inl ⟨q1.then hm56 (fun k _ x=>.inl x),v5,get_set_same _ _ _ (lt_of_get q2'),hs5.mod hm6 (fun k hk e=>by have:=hv5 k hk; omega),fun k hk => ?_⟩⟩
    have hk5:=hv5 k hk
    exact ⟨by omega,fun x=>by have:=(hX0 _ x).2; omega,fun x=>by have:=(hge k x).2; omega⟩
  · rintro X u ⟨k1,v,k2,k3,k4⟩ ⟨a1,a2,a3⟩
    rw [wordsV_len,List.take_length] at k3
    obtain ⟨⟨av,cv,rfl⟩,hvt⟩:=id k3
    rw [boV_len] at hvt k2
    obtain ⟨bv,ov,ccv,curv,tv,fv,hev,hbv,hcv⟩:=hvt L.length _ (boV_get (by omega))
    have hav : av = some ⟨bv,ov,none⟩:=by simpa using congrArg (fun x=>match x with | .slice a _ _=>a | _=>none) hev
    subst hav
    have vu:=k1.keep v4 (fun x=>by rcases x with x | x; omega; (have:=(hX0 _ x).1; omega))
    have hnn : (0 : Int)≤((L.length : Nat) : Int)∧((L.length : Nat) : Int) < ((L.length + 1 : Nat) : Int):=by omega
    have hmD : Mod (fun k=>k = w4.heap.size) u (Vc.set u w4.heap.size (.deferred none)):=(Mod.refl _ _).set (.inr rfl)
    simp only [ZB,endK,resK,packed,insVc,load1K,iaddrK,lenLK,ne_eq,Nat.reduceEqDiff,Za,Zah,Zaa,Zax,Zbh,k2,vu,hnn,hbv,hcv,markO,a1]
    refine h _ ((hm04.then k1 (fun k hk x => ?_)).then hmD (fun k hk x=>by omega))
    rcases x with x | x
    · omega
    · have:=(hX0 _ x).1; omega
  · rintro c X u k1; exact k1.elim
def fitsB (kind : Int) (pattern key : ByteArray) : Bool:=if kind = 1 then (pattern.toList == key.toList) else if kind = 2 then true else if kind = 3 then matchB pattern key else false
theorem fits88_c (kind : Int) (pattern key : ByteArray) (hp : pattern.size < 2 ^ 19) (hk : key.size < 2 ^ 19) (w : World) (K : Value→World→Prop) (h : ∀ w',Mod (fun _=>False) w w'→K (.bool (fitsB kind pattern key)) w') :
    Ok Proofs.Tryz.prog 88 #[.int .i64 kind,.string pattern,.string key] w K:=by
  refine F88.enter (args:=[.int .i64 kind,.string pattern,.string key]) (by simp) ?_
  unfold c88 r88
  unfold fitsB at h
  by_cases h1 : kind = 1
  · subst h1
    simp only [ZB,endK,resK,packed,insVc,iopK,iopV,sopK,sopV,ne_eq,Nat.reduceEqDiff,reduceCtorEq,Zab,Za,Zaf,Zaa,Int.reduceBEq]
    exact h w (Mod.refl _ _)
  · have b1 : (kind == 1) = false:=by simpa using h1
    rw [if_neg h1] at h
    by_cases h2 : kind = 2
    · subst h2
      simp only [ZB,endK,resK,packed,insVc,iopK,iopV,ne_eq,Nat.reduceEqDiff,reduceCtorEq,Zab,Za,Zaa,Int.reduceBEq,b1]
      exact h w (Mod.refl _ _)
    · have b2 : (kind == 2) = false:=by simpa using h2
      rw [if_neg h2] at h
      by_cases h3 : kind = 3
      · subst h3
        simp only [ZB,insVc,iopK,iopV,ne_eq,Nat.reduceEqDiff,reduceCtorEq,Zab,Zad,Zae,Za,Zaf,Int.reduceBEq,b1,b2]
        refine match_c pattern key hp hk w _ ?_
        intro w' hm
        simp only [ZB,endK,resK,packed,insVc,Zaa]
        exact h w' hm
      · have b3 : (kind == 3) = false:=by simpa using h3
        rw [if_neg h3] at h
        simp only [ZB,endK,resK,packed,insVc,iopK,iopV,ne_eq,Nat.reduceEqDiff,reduceCtorEq,Zab,Za,Zaa,b1,b2,b3]
        exact h w (Mod.refl _ _)
end Go.Oct
