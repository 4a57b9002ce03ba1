import Derived.Test.YtbkddpckkgbbmaaGreatDoorVfE
import Derived.Test.YtbkddpckkgbbmaaGreatDoorVoH
import Derived.Test.YtbkddpckkgbbmaaGreatDoorVcT
import Derived.Laws.RangeString
import Derived.Test.YtbkddpckkgbbmaaGreatDoorVoN
set_option linter.unusedSimpArgs false
set_option linter.unusedVariables false
set_option linter.unusedSectionVars false
set_option linter.unnecessarySimpa false
namespace Go.Oct
open Go Go.Vc Go.VrA Go.VrF
set_option maxRecDepth 100000
def chL (P : List UInt8) : List (List UInt8)→List (List UInt8)
  | []=>[]
  | x :: xs=>(P ++ x) :: xs
theorem chL_nil {l : List (List UInt8)} : chL [] l = l:=by cases l <;> rfl
theorem splitL_dot (r : List UInt8) (P : List UInt8) : chL P (splitL (46 :: r)) = P :: splitL r:=by
  rw [splitL,if_pos rfl]
  show (P ++ []) :: splitL r = _
  rw [List.append_nil]
theorem splitL_chr {c : UInt8} (hc : c≠46) (r : List UInt8) (P : List UInt8) : chL P (splitL (c :: r)) = chL (P ++ [c]) (splitL r):=by
  rw [splitL,if_neg hc]
  have:=splitL_ne r
  revert this
  cases splitL r with
  | nil=>intro h; exact (h rfl).elim
  | cons w ws=>intro _; simp [chL]
theorem arr_append (P : List UInt8) (c : UInt8) : (⟨P.toArray⟩ : ByteArray) ++ ⟨#[c]⟩ = ⟨(P ++ [c]).toArray⟩:=by
  apply ByteArray.ext
  apply Array.ext'
  simp [ByteArray.data_append]
theorem ext_one (s : ByteArray) (i : Nat) (c : UInt8) (h : s.data.toList[i]? = some c) : s.extract i (i + 1) = ⟨#[c]⟩:=by
  apply ByteArray.ext
  rw [ByteArray.data_extract]
  apply Array.ext'
  rw [Array.toList_extract,List.extract_eq_take_drop]
  have : s.data.toList.drop i = c :: s.data.toList.drop (i + 1):=List.drop_eq_getElem?_toList_append.trans (by rw [h]; rfl)
  rw [this,Nat.add_sub_cancel_left]; rfl
theorem rwords_c (s : ByteArray) (hs : s.size < 2 ^ 19) (w : World) (K : Value→World→Prop)
    (h : ∀ w' v,Mod (fun _=>False) w w'→w'.ownsRow w.heap.size 9 1 v (wordsR s).length (stV (wordsR s))→K v w') : Ok Proofs.Tryz.prog 191 #[.string s] w K:=by
  refine F191.enter (args:=[.string s]) (by simp) ?_
  unfold c191 r191
  by_cases h0 : s.size = 0
  · have b : (s.toList == (⟨#[]⟩ : ByteArray).toList) = true:=by
      rw [beq_iff_eq,ByteArray.toList_eq,ByteArray.toList_eq]
      have : s.data.toList = []:=List.eq_nil_of_length_eq_zero (by rw [Array.length_toList]; exact h0)
      rw [this]
    have e : wordsR s = []:=by unfold wordsR; rw [if_pos h0]
    rw [e] at h
    simp only [ZB,endK,resK,packed,insVc,sopK,sopV,ne_eq,Nat.reduceEqDiff,reduceCtorEq,Zab,Za,Zaa,b]
    exact h w _ (Mod.refl _ _) (World.ownsRow_nil _ _ _ 1)
  have b : (s.toList == (⟨#[]⟩ : ByteArray).toList) = false:=by
    rw [beq_eq_false_iff_ne,ByteArray.toList_eq,ByteArray.toList_eq]
    intro e
    have:=congrArg List.length e
    rw [Array.length_toList] at this
    exact h0 this
  have e : wordsR s = splitL s.data.toList:=by unfold wordsR; rw [if_neg h0]
  have hlen:=splitL_len s.data.toList
  have hsl : s.data.toList.length = s.size:=by rw [Array.length_toList]; rfl
  rw [e] at h
  simp only [ZB,insVc,sopK,sopV,ne_eq,reduceCtorEq,Zab,Za,b]
  refine vc_loop (fun mm ρ ds u => ∃ (i : Nat) (O : List (List UInt8)) (Pw : List UInt8) (v : Value),i≤s.size∧mm = s.size - i∧ds = []∧ρ 0 = .string s∧ρ 3 = v∧ρ 4 = .string ⟨Pw.toArray⟩∧ρ 5 = .int .i64 i ∧
    Mod (fun _=>False) w u∧u.ownsRow w.heap.size 9 1 v O.length (stV O)∧O.length≤i∧Pw.length≤i∧splitL s.data.toList = O ++ chL Pw (splitL (s.data.toList.drop i))) (s.size - 0) ?_ ?_
  · exact ⟨0,[],[],_,Nat.zero_le _,rfl,rfl,by simp only [ZB,ne_eq,reduceCtorEq,Zab,Za],by simp only [ZB,ne_eq,Nat.reduceEqDiff] <;> rfl,by simp only [ZB,ne_eq,Nat.reduceEqDiff],by simp only [ZB] <;> rfl,Mod.refl _ _,World.ownsRow_nil _ _ _ 1,by simp,by simp,by simp [chL_nil]⟩
  · rintro mm ρ ds u ⟨i,O,Pw,v,hi,rfl,rfl,g0,g3,g4,g5,hmu,hown,hO,hP,hspl⟩
    have hob : ∀ k,v.ownBlock = some k→w.heap.size≤k∧k < u.heap.size:=fun k hk=>World.ownsRow.lt hown k hk
    have hus:=hmu.size
    by_cases c1 : i < s.size
    · have d1 : (i : Int) < ((s.size : Nat) : Int):=by omega
      have hi0 : (0 : Int)≤(i : Int):=by omega
      obtain ⟨c,hc⟩ : ∃ c,s.data.toList[i]? = some c:=⟨_,List.getElem?_eq_getElem (by omega)⟩
      have hcd : s.data[i]? = some c:=by rw [← Array.getElem?_toList]; exact hc
      have hdrop : s.data.toList.drop i = c :: s.data.toList.drop (i + 1):=List.drop_eq_getElem?_toList_append.trans (by rw [hc]; rfl)
      have hwi : IntKind.i64.wrap ((i : Int) + 1) = ((i + 1 : Nat) : Int):=by rw [wrap_i64 _ (by omega)]; omega
      rw [hdrop] at hspl
      by_cases hdot : c = 46
      · subst hdot
        have q0 : ((((46 : UInt8).toNat : Nat) : Int) == 46) = true:=rfl
        rw [splitL_dot] at hspl
        obtain ⟨v5,w5,hr5,ho5,hm5,hb5⟩:=append_st w.heap.size v O.length _ ⟨Pw.toArray⟩ u hown hus (by omega) 80
        simp only [ZB,insVc,iopK,iopV,sidxK,lenSK,fillL,buildSK,Value.cells,ne_eq,Nat.reduceEqDiff,Nat.reduceLeDiff,reduceCtorEq,Zbk,Zak,Zai,Zaj,Zbc,Zbd,Zba,Zbb,Zal,Zam,Zbf,Zac,Zax,g0,g3,g4,g5,d1,hi0,hcd,q0]
        refine rawK_append rfl rfl rfl (by simp only [ZB,ne_eq,Nat.reduceEqDiff]; exact hr5) ?_
        simp only [ZB,insVc,iopK,iopV,ne_eq,Nat.reduceEqDiff,reduceCtorEq,g0,g5,hwi]
        refine ⟨s.size - (i + 1),by omega,i + 1,O ++ [Pw],[],v5,by omega,rfl,rfl,rfl,rfl,hmu.then hm5 (fun k hk x=>by have:=hob k x; omega), ?_,by rw [List.length_append]; simp; omega,by simp, ?_⟩
        · have e1 : stV (O ++ [Pw]) = stV O ++ [.string ⟨Pw.toArray⟩]:=by simp [stV]
          rw [e1,List.length_append]; exact ho5
        · rw [hspl,chL_nil]; simp
      · have q0 : (((c.toNat : Nat) : Int) == 46) = false:=by
          rw [beq_eq_false_iff_ne]
          intro e
          exact hdot (UInt8.toNat_inj.1 (show c.toNat = (46 : UInt8).toNat by have : (46 : UInt8).toNat = 46:=rfl; omega))
        have hb : (0 : Int)≤(i : Int)∧(i : Int)≤((i + 1 : Nat) : Int)∧((i + 1 : Nat) : Int)≤((s.size : Nat) : Int):=by omega
        have hx1:=ext_one s i c hc
        have hadd : ¬ ((((⟨Pw.toArray⟩ : ByteArray).size + (⟨#[c]⟩ : ByteArray).size : Nat) : Int) > IntKind.i64.max):=by
          have e1 : (⟨Pw.toArray⟩ : ByteArray).size = Pw.length:=by simp [ByteArray.size]
          have e2 : (⟨#[c]⟩ : ByteArray).size = 1:=rfl
          rw [e1,e2,imax]; omega
        rw [splitL_chr hdot] at hspl
        simp only [ZB,insVc,iopK,iopV,sopK,sopV,sidxK,lenSK,boundOf,slSK,ne_eq,Nat.reduceEqDiff,reduceCtorEq,Zbk,Zag,Zax,g0,g3,g4,g5,d1,hi0,hcd,q0,hwi,hb,hx1,hadd,arr_append]
        exact ⟨s.size - (i + 1),by omega,i + 1,O,Pw ++ [c],v,by omega,rfl,rfl,rfl,rfl,hmu,hown,by omega,by rw [List.length_append]; simp; omega,hspl⟩
    · have d1 : ¬ (i : Int) < ((s.size : Nat) : Int):=by omega
      have hie : i = s.size:=by omega
      have hd0 : s.data.toList.drop i = []:=List.drop_of_length_le (by omega)
      rw [hd0] at hspl
      have hsp2 : splitL s.data.toList = O ++ [Pw]:=by rw [hspl]; simp [splitL,chL]
      obtain ⟨v5,w5,hr5,ho5,hm5,hb5⟩:=append_st w.heap.size v O.length _ ⟨Pw.toArray⟩ u hown hus (by omega) 80
      simp only [ZB,insVc,iopK,iopV,lenSK,fillL,buildSK,Value.cells,ne_eq,Nat.reduceEqDiff,Nat.reduceLeDiff,reduceCtorEq,Zak,Zai,Zaj,Zbc,Zbd,Zba,Zbb,Zal,Zam,Zbf,Zac,g0,g3,g4,g5,d1]
      refine rawK_append rfl rfl rfl (by simp only [ZB,ne_eq,Nat.reduceEqDiff]; exact hr5) ?_
      simp only [ZB,endK,resK,packed,insVc,Zaa]
      refine h w5 v5 (hmu.then hm5 (fun k hk x=>by have:=hob k x; omega)) ?_
      have e1 : stV (O ++ [Pw]) = stV O ++ [.string ⟨Pw.toArray⟩]:=by simp [stV]
      rw [hsp2,e1,List.length_append]; exact ho5
end Go.Oct
namespace Go.Oct
open Go Go.Vc Go.VrA Go.VrF
set_option maxRecDepth 100000
def goodL : List UInt8:=[97,98,99,100,101,102,103,104,105,106,107,108,109,110,111,112,113,114,115,116,117,118,119,120,121,122,65,66,67,68,69,70,71,72,73,74,75,76,77,78,79,80,81,82,83,84,85,86,87,88,89,90,48,49,50,51,52,53,54,55,56,57,45,95]
def rnameB (s : ByteArray) : Bool:=s.data.toList.all (fun c=>goodL.contains c) && (decide ((s.size : Int) > 0) && decide ((s.size : Int)≤32))
theorem good_plain (c : UInt8) : goodL.contains c = plainI c.toNat:=by
  have h : ∀ n : Nat,n < 256→goodL.contains (UInt8.ofNat n) = plainI (n : Int):=by decide +kernel
  have:=h c.toNat c.toNat_lt
  simpa using this
theorem decode_high (s : ByteArray) (i : Nat) (h : ¬ (s.get! i).toNat < 128) : 128≤(Utf8.decode s i).1:=by
  unfold Utf8.decode
  simp only [Nat.add_zero,h,Zag]
  have hr : 128≤Utf8.runeError:=by decide
  repeat' split
  all_goals first | exact hr | skip
  all_goals simp_all
  all_goals omega
theorem idx_plain (s : ByteArray) : ∀ (f pos : Nat),s.size≤pos + f→(Lib.idxFuncFrom (fun x => !(plainI x)) true s f pos = -1 ↔ ∀ c ∈ s.data.toList.drop pos,plainI c.toNat = true):=by
  intro f
  induction f with
  | zero =>
    intro pos h
    have : s.data.toList.drop pos = []:=List.drop_of_length_le (by rw [Array.length_toList]; show s.size≤pos; omega)
    rw [this]
    simp [Lib.idxFuncFrom]
  | succ f ih =>
    intro pos h
    unfold Lib.idxFuncFrom
    by_cases hp : pos < s.size
    · rw [if_pos hp]
      have hl : pos < s.data.toList.length:=by rw [Array.length_toList]; exact hp
      have hdrop : s.data.toList.drop pos = s[pos] :: s.data.toList.drop (pos + 1):=by
        rw [List.drop_eq_getElem_cons hl]; rfl
      rw [hdrop]
      by_cases hb : (s[pos]).toNat < 128
      · have hd:=decode_ascii s pos hp hb
        rw [hd]
        simp only []
        cases hpl : plainI ((s[pos]).toNat : Int) with
        | true =>
          rw [if_neg (by simp []),ih (pos + 1) (by omega)]
          simp [hpl]
        | false =>
          rw [if_pos (by simp [])]
          constructor
          · intro e; omega
          · intro e
            have:=e s[pos] (by simp)
            rw [hpl] at this; cases this
      · have hg : s.get! pos = s[pos]:=by
          show s.data[pos]! = s.data[pos]
          exact getElem!_pos _ _ _
        have hd:=decode_high s pos (by rw [hg]; exact hb)
        have hnp : ∀ n : Nat,128≤n→plainI (n : Int) = false:=by
          intro n hn
          simp only [plainI,Bool.or_eq_false_iff,Bool.and_eq_false_iff,decide_eq_false_iff_not,beq_eq_false_iff_ne]
          omega
        rw [if_pos (by rw [hnp _ hd]; rfl)]
        constructor
        · intro e; omega
        · intro e
          have:=e s[pos] (by simp)
          rw [hnp _ (by omega)] at this; cases this
    · rw [if_neg hp]
      have : s.data.toList.drop pos = []:=List.drop_of_length_le (by rw [Array.length_toList]; show s.size≤pos; omega)
      rw [this]; simp
theorem name_ref (s : ByteArray) : rnameB s = nameB s:=by
  unfold rnameB nameB
  have h:=idx_plain s s.size 0 (by omega)
  rw [List.drop_zero] at h
  have h1 : s.data.toList.all (fun c=>goodL.contains c) = !decide (0≤Lib.idxFunc (fun x => !(plainI x)) true s):=by
    have hr:=Lib.idxFunc_range (fun x => !(plainI x)) true s
    by_cases ha : Lib.idxFunc (fun x => !(plainI x)) true s = -1
    · rw [ha]
      have:=h.1 ha
      rw [List.all_eq_true.2 (fun c hc=>by rw [good_plain]; exact this c hc)]
      decide
    · have h0 : 0≤Lib.idxFunc (fun x => !(plainI x)) true s:=by rcases hr with hr | hr; exact (ha hr).elim; exact hr.1
      rw [decide_eq_true h0]
      have hf : s.data.toList.all (fun c=>goodL.contains c) = false:=by
        rw [Bool.eq_false_iff]
        intro hall
        exact ha (h.2 fun c hc=>by rw [← good_plain]; exact List.all_eq_true.1 hall c hc)
      rw [hf]; rfl
  have h2 : (s.toList == (⟨#[]⟩ : ByteArray).toList) = decide (s.size = 0):=by
    rw [st_eq]
    have e : (⟨#[]⟩ : ByteArray).data.toList = []:=rfl
    rw [e]
    by_cases h0 : s.size = 0
    · rw [decide_eq_true h0,decide_eq_true (List.eq_nil_of_length_eq_zero (by rw [Array.length_toList]; exact h0))]
    · rw [decide_eq_false h0,decide_eq_false (fun x=>h0 (by have:=congrArg List.length x; rw [Array.length_toList] at this; exact this))]
  rw [h1,h2]
  by_cases h0 : s.size = 0
  · have a1 : ¬ (s.size : Int) > 0:=by omega
    simp [h0]
  · have a1 : (s.size : Int) > 0:=by omega
    rw [decide_eq_true a1,decide_eq_false h0]
    have a2 : decide ((s.size : Int)≤32) = decide (s.size≤32):=by
      by_cases e : s.size≤32
      · rw [decide_eq_true e,decide_eq_true (by omega)]
      · rw [decide_eq_false e,decide_eq_false (by omega)]
    rw [a2]
    simp only [Bool.not_false,Bool.true_and]
    exact Bool.and_comm _ _
theorem rname_c (s : ByteArray) (hs : s.size < 2 ^ 40) (w : World) (K : Value→World→Prop) (h : ∀ w',Mod (fun _=>False) w w'→K (.bool (nameB s)) w') : Ok Proofs.Tryz.prog 142 #[.string s] w K:=by
  rw [← name_ref] at h
  refine F142.enter (args:=[.string s]) (by simp) ?_
  unfold c142 r142
  unfold rnameB at h
  have hsl : s.data.toList.length = s.size:=by rw [Array.length_toList]; rfl
  obtain ⟨gd,hgd⟩ : ∃ gd : ByteArray,gd = ⟨goodL.toArray⟩:=⟨_,rfl⟩
  have hgl : goodL.length = 64:=rfl
  simp only [ZB,insVc]
  refine vc_loop (fun mm ρ ds u => ∃ i,i≤s.size∧mm = s.size - i∧ds = []∧ρ 0 = .string s∧ρ 3 = .int .i64 i∧Mod (fun _=>False) w u∧(s.data.toList.take i).all (fun c=>goodL.contains c) = true) (s.size - 0) ?_ ?_
  · exact ⟨0,Nat.zero_le _,rfl,rfl,by simp only [ZB,ne_eq,reduceCtorEq,Zab,Za] <;> rfl,by simp only [ZB] <;> rfl,Mod.refl _ _,rfl⟩
  · rintro mm ρ ds u ⟨i,hi,rfl,rfl,g0,g3,hmu,hok⟩
    by_cases c1 : i < s.size
    · have d1 : (i : Int) < ((s.size : Nat) : Int):=by omega
      have hi0 : (0 : Int)≤(i : Int):=by omega
      obtain ⟨c,hc⟩ : ∃ c,s.data.toList[i]? = some c:=⟨_,List.getElem?_eq_getElem (by omega)⟩
      have hcd : s.data[i]? = some c:=by rw [← Array.getElem?_toList]; exact hc
      have hwi : IntKind.i64.wrap ((i : Int) + 1) = ((i + 1 : Nat) : Int):=by rw [wrap_i64 _ (by omega)]; omega
      have htk : s.data.toList.take (i + 1) = s.data.toList.take i ++ [c]:=by rw [List.take_add_one,hc]; rfl
      simp only [ZB,insVc,iopK,iopV,lenSK,ne_eq,Nat.reduceEqDiff,reduceCtorEq,g0,g3,d1]
      refine vc_loop (fun mm ρ ds z => ∃ k,k≤64∧mm = 64 - k∧ds = []∧ρ 0 = .string s∧ρ 3 = .int .i64 i∧ρ 5 = .int .i64 k∧ρ 4 = .bool ((goodL.take k).contains c)∧Mod (fun _=>False) w z) (64 - 0) ?_ ?_
      · exact ⟨0,Nat.zero_le _,rfl,rfl,by simp only [ZB,ne_eq,reduceCtorEq,g0] <;> rfl,by simp only [ZB,ne_eq,Nat.reduceEqDiff,g3] <;> rfl,by simp only [ZB] <;> rfl,by simp only [ZB,ne_eq,Nat.reduceEqDiff,Zar] <;> rfl,hmu⟩
      · rintro mm ρ2 ds z ⟨k,hk,rfl,rfl,q0,q3,q5,q4,hmz⟩
        by_cases c2 : k < 64
        · have d2 : (k : Int) < 64:=by omega
          have hk0 : (0 : Int)≤(k : Int):=by omega
          obtain ⟨g,hg⟩ : ∃ g,goodL[k]? = some g:=⟨_,List.getElem?_eq_getElem (by omega)⟩
          have hgk : (goodL.toArray)[k]? = some g:=by rw [List.getElem?_toArray]; exact hg
          have hwk : IntKind.i64.wrap ((k : Int) + 1) = ((k + 1 : Nat) : Int):=by rw [wrap_i64 _ (by omega)]; omega
          have hgt : goodL.take (k + 1) = goodL.take k ++ [g]:=by rw [List.take_add_one,hg]; rfl
          have hgc : (goodL.take (k + 1)).contains c = ((goodL.take k).contains c || (((g.toNat : Nat) : Int) == ((c.toNat : Nat) : Int))):=by
            rw [hgt,List.contains_append]
            congr 1
            by_cases e : g = c
            · subst e; simp
            · have h1 : (c == g) = false:=by rw [beq_eq_false_iff_ne]; exact fun x=>e x.symm
              have h2 : (((g.toNat : Nat) : Int) == ((c.toNat : Nat) : Int)) = false:=by
                rw [beq_eq_false_iff_ne]
                intro x
                exact e (UInt8.toNat_inj.1 (by omega))
              simp only [List.contains_cons,h1,h2,Zci]
              rfl
          have goodE : (#[97,98,99,100,101,102,103,104,105,106,107,108,109,110,111,112,113,114,115,116,117,118,119,120,121,122,65,66,67,68,69,70,71,72,73,74,75,76,77,78,79,80,81,82,83,84,85,86,87,88,89,90,48,49,50,51,52,53,54,55,56,57,45,95] : Array UInt8)[k]? = some g:=hgk
          simp only [ZB,insVc,iopK,iopV,reduceCtorEq,q5,d2]
          refine draw_e (by kernel_rfl) (by kernel_rfl) (by kernel_rfl) (by kernel_rfl) ?_
          cases hin : (goodL.take k).contains c with
          | true =>
            rw [hin] at q4 hgc
            simp only [ZB,insVc,pickK,iopK,iopV,ne_eq,Nat.reduceEqDiff,reduceCtorEq,Zac,Zag,pureI,kindI,loadI,vcE_nil,vcE_cons,vcE_gate,gateE_false,stepE_pure,q0,q3,q4,q5,hwk]
            exact ⟨64 - (k + 1),by omega,k + 1,by omega,rfl,rfl,by rw [hgc] <;> rfl,hmz.trans (Mod.refl _ _).drew⟩
          | false =>
            rw [hin,Bool.false_or] at hgc
            rw [hin] at q4
            have goodE' : ((⟨#[97,98,99,100,101,102,103,104,105,106,107,108,109,110,111,112,113,114,115,116,117,118,119,120,121,122,65,66,67,68,69,70,71,72,73,74,75,76,77,78,79,80,81,82,83,84,85,86,87,88,89,90,48,49,50,51,52,53,54,55,56,57,45,95]⟩ : ByteArray).data)[k]? = some g:=hgk
            simp only [ZB,insVc,pickK,iopK,iopV,sidxK,ne_eq,Nat.reduceEqDiff,reduceCtorEq,Zbk,Zac,Zag,Zax,pureI,kindI,loadI,vcE_nil,vcE_cons,vcE_gate,gateE_true,stepE_pure,q0,q3,q4,q5,hi0,hk0,goodE,hcd,hwk]
            exact ⟨64 - (k + 1),by omega,k + 1,by omega,rfl,rfl,by rw [hgc] <;> rfl,hmz.trans (Mod.refl _ _).drew⟩
        · have d2 : ¬ (k : Int) < 64:=by omega
          have hke : k = 64:=by omega
          subst hke
          have hall : goodL.take 64 = goodL:=rfl
          rw [hall] at q4
          cases hin : goodL.contains c with
          | true =>
            rw [hin] at q4
            simp only [ZB,insVc,iopK,iopV,notK,ne_eq,Nat.reduceEqDiff,reduceCtorEq,Nat.reduceSub,q0,q3,q4,q5,d2,hwi]
            refine ⟨s.size - (i + 1),by omega,i + 1,by omega,rfl,rfl,hmz, ?_⟩
            rw [htk,List.all_append,hok,List.all_cons,hin]; rfl
          | false =>
            rw [hin] at q4
            have hall2 : s.data.toList.all (fun c=>goodL.contains c) = false:=by
              rw [Bool.eq_false_iff]
              intro e
              have:=List.all_eq_true.1 e c (List.mem_of_getElem? hc)
              rw [hin] at this; cases this
            rw [hall2] at h
            simp only [ZB,endK,resK,packed,insVc,iopK,iopV,notK,ne_eq,Nat.reduceEqDiff,reduceCtorEq,Zaa,Nat.reduceSub,q4,q5,d2]
            exact h z hmz
    · have d1 : ¬ (i : Int) < ((s.size : Nat) : Int):=by omega
      have hie : i = s.size:=by omega
      rw [hie,← hsl,List.take_length] at hok
      rw [hok,Bool.true_and] at h
      by_cases e1 : (s.size : Int) > 0
      · rw [decide_eq_true e1,Bool.true_and] at h
        by_cases e2 : (s.size : Int)≤32
        · rw [decide_eq_true e2] at h
          simp only [ZB,endK,resK,packed,insVc,pickK,iopK,iopV,lenSK,ne_eq,Nat.reduceEqDiff,reduceCtorEq,Zaa,Zac,g0,g3,d1,e1,e2]
          exact h u hmu
        · rw [decide_eq_false e2] at h
          simp only [ZB,endK,resK,packed,insVc,pickK,iopK,iopV,lenSK,ne_eq,Nat.reduceEqDiff,reduceCtorEq,Zaa,Zac,g0,g3,d1,e1,e2]
          exact h u hmu
      · rw [decide_eq_false e1,Bool.false_and] at h
        simp only [ZB,endK,resK,packed,insVc,pickK,iopK,iopV,lenSK,ne_eq,Nat.reduceEqDiff,reduceCtorEq,Zaa,Zag,g0,g3,d1,e1]
        exact h u hmu
end Go.Oct
namespace Go.Oct
open Go Go.Vc Go.VrA Go.VrF
set_option maxRecDepth 100000
theorem splitL_mem : ∀ (l : List UInt8),∀ x ∈ splitL l,x.length≤l.length:=by
  intro l
  induction l with
  | nil=>intro x hx; simp [splitL] at hx; simp [hx]
  | cons c r ih =>
    intro x hx
    unfold splitL at hx
    by_cases hc : c = 46
    · rw [if_pos hc] at hx
      rcases List.mem_cons.1 hx with rfl | hx
      · simp
      · have:=ih x hx; rw [List.length_cons]; omega
    · rw [if_neg hc] at hx
      revert hx ih
      cases splitL r with
      | nil=>intro ih hx; rw [List.mem_singleton.1 hx]; simp
      | cons w ws =>
        intro ih hx
        rcases List.mem_cons.1 hx with rfl | hx
        · have:=ih w (by simp); simp only [Zai]; omega
        · have:=ih x (by simp [hx]); rw [List.length_cons]; omega
theorem wordsR_mem (s : ByteArray) : ∀ x ∈ wordsR s,x.length≤s.size:=by
  intro x hx
  unfold wordsR at hx
  split at hx
  · cases hx
  · have:=splitL_mem _ x hx
    rw [Array.length_toList] at this
    exact this
theorem arr_size (x : List UInt8) : (⟨x.toArray⟩ : ByteArray).size = x.length:=by simp [ByteArray.size]
theorem rkey20_c (s : ByteArray) (hs : s.size < 2 ^ 19) (w : World) (K : Value→World→Prop) (h : ∀ w',Mod (fun _=>False) w w'→K (.bool (keyW s)) w') : Ok Proofs.Tryz.prog 144 #[.string s] w K:=by
  refine F144.enter (args:=[.string s]) (by simp) ?_
  unfold c144 r144
  simp only [ZB,insVc,ne_eq,reduceCtorEq,Zab,Zad,Zae,Za]
  refine rwords_c s hs w _ ?_
  intro w1 v hm1 ho
  have hml:=wordsR_mem s
  have hll:=wordsR_len s
  unfold keyW allB at h
  revert h ho hml hll
  generalize wordsR s = L
  intro h ho hml hll
  rw [← stV_len L] at ho
  have hsl:=IsSl.own ho
  obtain ⟨⟨a,cp,rfl⟩,hat⟩:=hsl
  rw [stV_len] at hat ⊢
  simp only [ZB,insVc,lenLK]
  refine vc_loop (fun mm ρ ds u => ∃ i,i≤L.length∧mm = L.length - i∧ds = []∧ρ 3 = .slice a L.length cp∧ρ 8 = .slice a L.length cp∧ρ 9 = .int .i64 L.length∧ρ 10 = .int .i64 i∧Mod (fun _=>False) w1 u∧(L.take i).all (fun x=>nameB ⟨x.toArray⟩) = true) (L.length - 0) ?_ ?_
  · exact ⟨0,Nat.zero_le _,rfl,rfl,by simp only [ZB,ne_eq,Nat.reduceEqDiff] <;> rfl,by simp only [ZB,ne_eq,Nat.reduceEqDiff] <;> rfl,by simp only [ZB,ne_eq,Nat.reduceEqDiff] <;> rfl,by simp only [ZB] <;> rfl,Mod.refl _ _,rfl⟩
  · rintro mm ρ ds u ⟨i,hi,rfl,rfl,g3,g8,g9,g10,hmu,hok⟩
    by_cases c1 : i < L.length
    · have d1 : (i : Int) < ((L.length : Nat) : Int):=by omega
      have hi0 : (0 : Int)≤(i : Int)∧(i : Int) < ((L.length : Nat) : Int):=by omega
      obtain ⟨x,hx⟩ : ∃ x,L[i]? = some x:=⟨_,List.getElem?_eq_getElem c1⟩
      obtain ⟨b,o,cc,cur,t,f,he,hb,hcv⟩:=hat i (.string ⟨x.toArray⟩) (by simp [stV,hx])
      have ha : a = some ⟨b,o,none⟩:=by simpa using congrArg (fun x=>match x with | .slice a _ _=>a | _=>none) he
      subst ha
      have hbu:=hmu.keep hb id
      have hwi : IntKind.i64.wrap ((i : Int) + 1) = ((i + 1 : Nat) : Int):=by rw [wrap_i64 _ (by omega)]; omega
      have htk : L.take (i + 1) = L.take i ++ [x]:=by rw [List.take_add_one,hx]; rfl
      have hxl:=hml x (List.mem_of_getElem? hx)
      simp only [ZB,insVc,load1K,iopK,iopV,iaddrK,ne_eq,Nat.reduceEqDiff,reduceCtorEq,Zad,Zae,Zax,Zbh,g8,g9,g10,d1,hi0,hbu,hcv]
      refine rname_c _ (by rw [arr_size]; omega) u _ ?_
      intro u1 hm2
      cases hin : nameB ⟨x.toArray⟩ with
      | true =>
        simp only [ZB,insVc,iopK,iopV,notK,ne_eq,Nat.reduceEqDiff,reduceCtorEq,g3,g8,g9,g10,hwi]
        refine ⟨L.length - (i + 1),by omega,i + 1,by omega,rfl,rfl,hmu.trans hm2, ?_⟩
        rw [htk,List.all_append,hok,List.all_cons,hin]; rfl
      | false =>
        have hall : (L.all fun x=>nameB ⟨x.toArray⟩) = false:=by
          rw [Bool.eq_false_iff]
          intro e
          have:=List.all_eq_true.1 e x (List.mem_of_getElem? hx)
          rw [hin] at this; cases this
        rw [hall,Bool.and_false] at h
        simp only [ZB,endK,resK,packed,insVc,notK,Zaa]
        exact h u1 ((hm1.trans hmu).trans hm2)
    · have d1 : ¬ (i : Int) < ((L.length : Nat) : Int):=by omega
      have hie : i = L.length:=by omega
      rw [hie,List.take_length] at hok
      rw [hok,Bool.and_true] at h
      have d8 : decide ((L.length : Int)≤8) = decide (L.length≤8):=by
        by_cases e : L.length≤8
        · rw [decide_eq_true e,decide_eq_true (by omega)]
        · rw [decide_eq_false e,decide_eq_false (by omega)]
      simp only [ZB,endK,resK,packed,insVc,iopK,iopV,lenLK,ne_eq,Nat.reduceEqDiff,reduceCtorEq,Zaa,g3,g9,g10,d1,d8]
      exact h u (hm1.trans hmu)
theorem rpat20_c (s : ByteArray) (hs : s.size < 2 ^ 19) (w : World) (K : Value→World→Prop) (h : ∀ w',Mod (fun _=>False) w w'→K (.bool (patW s)) w') : Ok Proofs.Tryz.prog 190 #[.string s] w K:=by
  refine F190.enter (args:=[.string s]) (by simp) ?_
  unfold c190 r190
  simp only [ZB,insVc,ne_eq,reduceCtorEq,Zab,Zad,Zae,Za]
  refine rwords_c s hs w _ ?_
  intro w1 v hm1 ho
  have hml:=wordsR_mem s
  have hll:=wordsR_len s
  unfold patW allB at h
  revert h ho hml hll
  generalize wordsR s = L
  intro h ho hml hll
  rw [← stV_len L] at ho
  have hsl:=IsSl.own ho
  obtain ⟨⟨a,cp,rfl⟩,hat⟩:=hsl
  rw [stV_len] at hat ⊢
  simp only [ZB,insVc,lenLK]
  refine vc_loop (fun mm ρ ds u => ∃ i,i≤L.length∧mm = L.length - i∧ds = []∧ρ 3 = .slice a L.length cp∧ρ 8 = .slice a L.length cp∧ρ 9 = .int .i64 L.length∧ρ 10 = .int .i64 i∧Mod (fun _=>False) w1 u∧(L.take i).all (fun x=>patB ⟨x.toArray⟩) = true) (L.length - 0) ?_ ?_
  · exact ⟨0,Nat.zero_le _,rfl,rfl,by simp only [ZB,ne_eq,Nat.reduceEqDiff] <;> rfl,by simp only [ZB,ne_eq,Nat.reduceEqDiff] <;> rfl,by simp only [ZB,ne_eq,Nat.reduceEqDiff] <;> rfl,by simp only [ZB] <;> rfl,Mod.refl _ _,rfl⟩
  · rintro mm ρ ds u ⟨i,hi,rfl,rfl,g3,g8,g9,g10,hmu,hok⟩
    by_cases c1 : i < L.length
    · have d1 : (i : Int) < ((L.length : Nat) : Int):=by omega
      have hi0 : (0 : Int)≤(i : Int)∧(i : Int) < ((L.length : Nat) : Int):=by omega
      obtain ⟨x,hx⟩ : ∃ x,L[i]? = some x:=⟨_,List.getElem?_eq_getElem c1⟩
      obtain ⟨b,o,cc,cur,t,f,he,hb,hcv⟩:=hat i (.string ⟨x.toArray⟩) (by simp [stV,hx])
      have ha : a = some ⟨b,o,none⟩:=by simpa using congrArg (fun x=>match x with | .slice a _ _=>a | _=>none) he
      subst ha
      have hbu:=hmu.keep hb id
      have hwi : IntKind.i64.wrap ((i : Int) + 1) = ((i + 1 : Nat) : Int):=by rw [wrap_i64 _ (by omega)]; omega
      have htk : L.take (i + 1) = L.take i ++ [x]:=by rw [List.take_add_one,hx]; rfl
      have hxl:=hml x (List.mem_of_getElem? hx)
      have good : patB ⟨x.toArray⟩ = true→(L.take (i + 1)).all (fun x=>patB ⟨x.toArray⟩) = true:=by
        intro e
        rw [htk,List.all_append,hok,List.all_cons,e]; rfl
      cases h1 : ((⟨x.toArray⟩ : ByteArray).toList == (⟨#[42]⟩ : ByteArray).toList) with
      | true =>
        have hp : patB ⟨x.toArray⟩ = true:=by unfold patB; rw [h1]; rfl
        simp only [ZB,insVc,pickK,load1K,iopK,iopV,sopK,sopV,iaddrK,ne_eq,Nat.reduceEqDiff,reduceCtorEq,Zag,Zax,Zbh,g3,g8,g9,g10,d1,hi0,hbu,hcv,h1,hwi]
        exact ⟨L.length - (i + 1),by omega,i + 1,by omega,rfl,rfl,hmu,good hp⟩
      | false =>
        cases h2 : ((⟨x.toArray⟩ : ByteArray).toList == (⟨#[35]⟩ : ByteArray).toList) with
        | true =>
          have hp : patB ⟨x.toArray⟩ = true:=by unfold patB; rw [h1,h2]; rfl
          simp only [ZB,insVc,pickK,load1K,iopK,iopV,sopK,sopV,iaddrK,ne_eq,Nat.reduceEqDiff,reduceCtorEq,Zac,Zag,Zax,Zbh,g3,g8,g9,g10,d1,hi0,hbu,hcv,h1,h2,hwi]
          exact ⟨L.length - (i + 1),by omega,i + 1,by omega,rfl,rfl,hmu,good hp⟩
        | false =>
          simp only [ZB,insVc,pickK,load1K,iopK,iopV,sopK,sopV,iaddrK,ne_eq,Nat.reduceEqDiff,reduceCtorEq,Zad,Zae,Zac,Zax,Zbh,g8,g9,g10,d1,hi0,hbu,hcv,h1,h2]
          refine rname_c _ (by rw [arr_size]; omega) u _ ?_
          intro u1 hm2
          have hp : patB ⟨x.toArray⟩ = nameB ⟨x.toArray⟩:=by unfold patB; rw [h1,h2]; rfl
          cases hin : nameB ⟨x.toArray⟩ with
          | true =>
            simp only [ZB,insVc,pickK,iopK,iopV,notK,ne_eq,Nat.reduceEqDiff,reduceCtorEq,Zac,g3,g8,g9,g10,hwi]
            exact ⟨L.length - (i + 1),by omega,i + 1,by omega,rfl,rfl,hmu.trans hm2,good (hp.trans hin)⟩
          | false =>
            have hall : (L.all fun x=>patB ⟨x.toArray⟩) = false:=by
              rw [Bool.eq_false_iff]
              intro e
              have:=List.all_eq_true.1 e x (List.mem_of_getElem? hx)
              rw [hp,hin] at this; cases this
            rw [hall,Bool.and_false] at h
            simp only [ZB,endK,resK,packed,insVc,pickK,notK,ne_eq,Nat.reduceEqDiff,Zaa,Zac]
            exact h u1 ((hm1.trans hmu).trans hm2)
    · have d1 : ¬ (i : Int) < ((L.length : Nat) : Int):=by omega
      have hie : i = L.length:=by omega
      rw [hie,List.take_length] at hok
      rw [hok,Bool.and_true] at h
      have d8 : decide ((L.length : Int)≤8) = decide (L.length≤8):=by
        by_cases e : L.length≤8
        · rw [decide_eq_true e,decide_eq_true (by omega)]
        · rw [decide_eq_false e,decide_eq_false (by omega)]
      simp only [ZB,endK,resK,packed,insVc,iopK,iopV,lenLK,ne_eq,Nat.reduceEqDiff,reduceCtorEq,Zaa,g3,g9,g10,d1,d8]
      exact h u (hm1.trans hmu)
theorem rright_c (kind : Int) (s : ByteArray) (hs : s.size < 2 ^ 19) (w : World) (K : Value→World→Prop) (h : ∀ w',Mod (fun _=>False) w w'→K (.bool (rightB kind s)) w') : Ok Proofs.Tryz.prog 143 #[.int .i64 kind,.string s] w K:=by
  refine F143.enter (args:=[.int .i64 kind,.string s]) (by simp) ?_
  unfold c143 r143
  unfold rightB at h
  by_cases h1 : kind = 1
  · subst h1
    rw [if_pos rfl] at h
    simp only [ZB,insVc,iopK,iopV,ne_eq,Nat.reduceEqDiff,reduceCtorEq,Zab,Zad,Zae,Za,Zaf,Int.reduceBEq]
    refine rkey20_c s hs w _ ?_
    intro w' hm
    cases hk : keyW s with
    | true=>rw [hk] at h; simp only [ZB,endK,resK,packed,insVc,pickK,ne_eq,Nat.reduceEqDiff,Zaa,Zac]; exact h w' hm
    | false=>rw [hk] at h; simp only [ZB,endK,resK,packed,insVc,pickK,iopK,iopV,ne_eq,Nat.reduceEqDiff,reduceCtorEq,Zab,Za,Zaa,Zac,Zag,Int.reduceBEq]; exact h w' hm
  · have b1 : (kind == 1) = false:=by simpa using h1
    rw [if_neg h1] at h
    by_cases h2 : kind = 2
    · subst h2
      rw [if_pos rfl] at h
      cases hk : (s.toList == (⟨#[]⟩ : ByteArray).toList) with
      | true=>rw [hk] at h; simp only [ZB,endK,resK,packed,insVc,pickK,iopK,iopV,sopK,sopV,ne_eq,Nat.reduceEqDiff,reduceCtorEq,Zab,Za,Zaf,Zaa,Zac,Zag,Int.reduceBEq,b1,hk]; exact h w (Mod.refl _ _)
      | false=>rw [hk] at h; simp only [ZB,endK,resK,packed,insVc,pickK,iopK,iopV,sopK,sopV,ne_eq,Nat.reduceEqDiff,reduceCtorEq,Zab,Za,Zaf,Zaa,Zac,Zag,Int.reduceBEq,b1,hk]; exact h w (Mod.refl _ _)
    · have b2 : (kind == 2) = false:=by simpa using h2
      rw [if_neg h2] at h
      by_cases h3 : kind = 3
      · subst h3
        rw [if_pos rfl] at h
        simp only [ZB,insVc,pickK,iopK,iopV,ne_eq,Nat.reduceEqDiff,reduceCtorEq,Zab,Zad,Zae,Za,Zaf,Zag,Int.reduceBEq,b1,b2]
        refine rpat20_c s hs w _ ?_
        intro w' hm
        simp only [ZB,endK,resK,packed,insVc,pickK,ne_eq,Nat.reduceEqDiff,Zaa,Zac,Zag]
        exact h w' hm
      · have b3 : (kind == 3) = false:=by simpa using h3
        rw [if_neg h3] at h
        simp only [ZB,endK,resK,packed,insVc,pickK,iopK,iopV,ne_eq,Nat.reduceEqDiff,reduceCtorEq,Zab,Za,Zaa,Zag,b1,b2,b3]
        exact h w (Mod.refl _ _)
end Go.Oct
namespace Go.Oct
open Go Go.Vc Go.VrA Go.VrF
set_option maxRecDepth 100000
def rmatch : List (List UInt8)→List (List UInt8)→Bool
  | [],k=>decide (k = [])
  | x :: p,k=>if x = [35] then (List.range (k.length + 1)).any fun i=>rmatch p (k.drop i) else
    match k with
    | []=>false
    | y :: k'=>if x≠[42]∧x≠y then false else rmatch p k'
theorem rmatch_any {x : List UInt8} (hx : x = [35]) (p k : List (List UInt8)) : rmatch (x :: p) k = (List.range (k.length + 1)).any fun i=>rmatch p (k.drop i):=by
  rw [rmatch.eq_def]
  exact if_pos hx
theorem rmatch_nil {x : List UInt8} (hx : x≠[35]) (p : List (List UInt8)) : rmatch (x :: p) [] = false:=by
  rw [rmatch.eq_def]
  exact if_neg hx
theorem rmatch_cons {x : List UInt8} (hx : x≠[35]) (p k : List (List UInt8)) (y : List UInt8) : rmatch (x :: p) (y :: k) = if x≠[42]∧x≠y then false else rmatch p k:=by
  rw [rmatch.eq_def]
  exact if_neg hx
def IsSc (w : World) (v : Value) (vs : List Value) : Prop :=
  ∃ a c,v = .slice a vs.length c∧vs.length≤c∧∀ (i : Nat) x,vs[i]? = some x→∃ b o cur t f,a = some ⟨b,o,none⟩∧w.heap[b]? = some (.cells cur t f)∧cur[o + i]? = some x
theorem IsSc.keep {w w' : World} {v : Value} {vs : List Value} (h : IsSc w v vs) (hm : Mod (fun _=>False) w w') : IsSc w' v vs:=by
  obtain ⟨a,c,h1,h2,h3⟩:=h
  refine ⟨a,c,h1,h2,fun i x hx => ?_⟩
  obtain ⟨b,o,cur,t,f,e1,e2,e3⟩:=h3 i x hx
  exact ⟨b,o,cur,t,f,e1,hm.keep e2 id,e3⟩
theorem IsSc.own {w : World} {B : Nat} {t : TypeId} {v : Value} {vs : List Value} (h : w.ownsRow B t 1 v vs.length vs) : IsSc w v vs:=by
  rcases h.2 with ⟨rfl,h0⟩ | ⟨g,cap,cur,rfl,_,hg,hnc,_,hs,hc⟩
  · have : vs = []:=List.length_eq_zero_iff.1 h0
    subst this; exact ⟨none,0,rfl,Nat.le_refl _,fun i x hx=>by simp at hx⟩
  · refine ⟨_,_,rfl,hnc,fun i x hx=>⟨g,0,cur,_,_,rfl,hg, ?_⟩⟩
    have hil:=(List.getElem?_eq_some_iff.1 hx).1
    have h1 : (cur.toList.take (vs.length * 1))[i]? = some x:=by rw [hc]; exact hx
    rw [List.getElem?_take,if_pos (by omega)] at h1
    simpa using h1
theorem IsSc.cut {w : World} {a : Option Addr} {n c : Nat} {vs : List Value} (h : IsSc w (.slice a n c) vs) (i : Nat) (hi : i≤n) : IsSc w (.slice (if c = i then a else a.map (·.add i)) (n - i) (c - i)) (vs.drop i):=by
  obtain ⟨a',c',h1,h2,h3⟩:=h
  simp only [Value.slice.injEq] at h1
  obtain ⟨rfl,rfl,rfl⟩:=h1
  refine ⟨_,_,by rw [List.length_drop],by rw [List.length_drop]; omega,fun j x hx => ?_⟩
  rw [List.getElem?_drop] at hx
  obtain ⟨b,o,cur,t,f,rfl,hb,hcv⟩:=h3 (i + j) x hx
  have hlt:=(List.getElem?_eq_some_iff.1 hx).1
  refine ⟨b,o + i,cur,t,f, ?_,hb,by rw [Nat.add_assoc]; exact hcv⟩
  rw [if_neg (by omega)]
  simp [Addr.add_lit]
theorem rmatch_c : ∀ (p k : List (List UInt8)) (vp vk : Value) (w : World) (K : Value→World→Prop),IsSc w vp (stV p)→IsSc w vk (stV k)→p.length < 2 ^ 20→k.length < 2 ^ 20 →
    (∀ w',Mod (fun _=>False) w w'→K (.bool (rmatch p k)) w')→Ok Proofs.Tryz.prog 216 #[vp,vk] w K:=by
  intro p
  induction p with
  | nil =>
    intro k vp vk w K hp hk _ hkl h
    obtain ⟨ap,cp,rfl,_,_⟩:=hp
    obtain ⟨ak,ck,rfl,_,_⟩:=hk
    rw [stV_len,stV_len]
    refine F216.enter (args:=[.slice ap ([] : List (List UInt8)).length cp,.slice ak k.length ck]) (by simp) ?_
    unfold c216 r216
    have e : (((k.length : Nat) : Int) == 0) = decide (k = []):=by
      cases k with
      | nil=>rfl
      | cons y k=>rw [decide_eq_false (by simp),beq_eq_false_iff_ne,List.length_cons]; omega
    have e0 : ((((0 : Nat) : Int)) == 0) = true:=rfl
    simp only [ZB,endK,resK,packed,insVc,iopK,iopV,lenLK,ne_eq,Nat.reduceEqDiff,reduceCtorEq,Zab,Za,Zaf,Zaj,Zaa,e,e0]
    exact h w (Mod.refl _ _)
  | cons x p ih =>
    intro k vp vk w K hp hk hpl hkl h
    rw [List.length_cons] at hpl
    have hp0:=hp
    have hk0:=hk
    obtain ⟨ap,cp,rfl,hpc,hpt⟩:=hp
    obtain ⟨ak,ck,rfl,hkc,hkt⟩:=hk
    rw [stV_len] at hp0 hk0 hpc hkc
    rw [stV_len,stV_len]
    obtain ⟨n,hn⟩ : ∃ n,n = (x :: p).length:=⟨_,rfl⟩
    obtain ⟨m,hm⟩ : ∃ m,m = k.length:=⟨_,rfl⟩
    rw [← hn] at hp0 hpc ⊢
    rw [← hm] at hk0 hkc hkl ⊢
    have hn1 : n = p.length + 1:=by rw [hn,List.length_cons]
    obtain ⟨b,o,cur,t,f,rfl,hb,hcv⟩:=hpt 0 (.string ⟨x.toArray⟩) (by simp [stV])
    rw [Nat.add_zero] at hcv
    refine F216.enter (args:=[.slice (some ⟨b,o,none⟩) n cp,.slice ak m ck]) (by simp) ?_
    unfold c216 r216
    have e0 : ((n : Int) == 0) = false:=by rw [beq_eq_false_iff_ne]; omega
    have hl0 : (0 : Int) < (n : Int):=by omega
    have ex : (⟨x.toArray⟩ : ByteArray).data.toList = x:=by simp
    have leq : ∀ a b : List UInt8,(a == b) = decide (a = b):=fun a b=>by
      by_cases h : a = b
      · rw [h]; simp
      · rw [decide_eq_false h,beq_eq_false_iff_ne]; exact h
    have p35:=leq x [35]
    have p42:=leq x [42]
    have hp1 : ∀ u,Mod (fun _=>False) w u→IsSc u (.slice (if cp = 1 then some ⟨b,o,none⟩ else (some ⟨b,o,none⟩ : Option Addr).map (·.add 1)) (n - 1) (cp - 1)) (stV p):=fun u hu=>(hp0.keep hu).cut 1 (by omega)
    have hb1 : (0 : Int)≤(1 : Int)∧(1 : Int)≤(n : Int)∧(n : Int)≤((cp : Nat) : Int):=by omega
    by_cases h35 : x = [35]
    · rw [decide_eq_true h35] at p35
      rw [rmatch_any h35,← hm] at h
      simp only [ZB,insVc,load1K,iopK,iopV,iaddrK,lenLK,ne_eq,reduceCtorEq,Zab,Za,Int.reduceLE,Int.reduceToNat,Zbh,sopK_eql,e0,hl0,hb,hcv,p35]
      refine vc_loop (fun mm ρ ds u => ∃ i,i≤m + 1∧mm = m + 1 - i∧ds = []∧ρ 0 = .slice (some ⟨b,o,none⟩) n cp∧ρ 1 = .slice ak m ck∧ρ 5 = .int .i64 i∧Mod (fun _=>False) w u∧∀ j,j < i→rmatch p (k.drop j) = false) (m + 1 - 0) ?_ ?_
      · exact ⟨0,Nat.zero_le _,rfl,rfl,by simp only [ZB,ne_eq,reduceCtorEq,Zab,Za] <;> rfl,by simp only [ZB,ne_eq,Nat.reduceEqDiff,Zab,Za,Zaf] <;> rfl,by simp only [ZB] <;> rfl,Mod.refl _ _,fun j hj=>by omega⟩
      · rintro mm ρ ds u ⟨i,hi,rfl,rfl,g0,g1,g5,hmu,hno⟩
        by_cases c1 : i≤m
        · have d1 : (i : Int)≤(m : Int):=by omega
          have hb2 : (0 : Int)≤(i : Int)∧(i : Int)≤(m : Int)∧(m : Int)≤((ck : Nat) : Int):=by omega
          have hwi : IntKind.i64.wrap ((i : Int) + 1) = ((i + 1 : Nat) : Int):=by rw [wrap_i64 _ (by omega)]; omega
          have hdrv : (stV k).drop i = stV (k.drop i):=by simp [stV]
          simp only [ZB,insVc,iopK,iopV,lenLK,ne_eq,Nat.reduceEqDiff,reduceCtorEq,g1,g5,d1]
          refine draw_e (by kernel_rfl) (by kernel_rfl) (by kernel_rfl) (by kernel_rfl) ?_
          simp only [ZB,insVc,boundOf,slLK,ne_eq,Nat.reduceEqDiff,reduceCtorEq,Zbk,Zbn,Zad,Zae,Zac,Zag,Int.reduceToNat,Zax,Zbh,pureI,kindI,loadI,vcE_nil,vcE_cons,stepE_pure,stepE_step,g0,g1,g5,hb1,hb2]
          have hmd : Mod (fun _=>False) u u.drew:=(Mod.refl _ _).drew
          have hkd:=(hk0.keep (hmu.trans hmd)).cut i c1
          rw [hdrv] at hkd
          refine ih (k.drop i) _ _ u.drew _ (hp1 _ (hmu.trans hmd)) hkd (by omega) (by rw [List.length_drop]; omega) ?_
          intro u1 hm1
          refine ⟨hmd.trans hm1, ?_⟩
          cases hr : rmatch p (k.drop i) with
          | true =>
            have : ((List.range (m + 1)).any fun i=>rmatch p (k.drop i)) = true:=List.any_eq_true.2 ⟨i,List.mem_range.2 (by omega),hr⟩
            rw [this] at h
            simp only [ZB,endK,resK,packed,insVc,Zaa]
            exact h u1 ((hmu.trans hmd).trans hm1)
          | false =>
            simp only [ZB,insVc,iopK,iopV,ne_eq,Nat.reduceEqDiff,reduceCtorEq,g0,g1,g5,hwi]
            refine ⟨m + 1 - (i + 1),by omega,i + 1,by omega,rfl,rfl,(hmu.trans hmd).trans hm1, ?_⟩
            intro j hj
            by_cases e : j = i
            · rw [e]; exact hr
            · exact hno j (by omega)
        · have d1 : ¬ (i : Int)≤(m : Int):=by omega
          have : ((List.range (m + 1)).any fun i=>rmatch p (k.drop i)) = false:=by
            rw [Bool.eq_false_iff]
            intro e
            obtain ⟨j,hj,hr⟩:=List.any_eq_true.1 e
            rw [hno j (by have:=List.mem_range.1 hj; omega)] at hr; cases hr
          rw [this] at h
          simp only [ZB,endK,resK,packed,insVc,iopK,iopV,lenLK,ne_eq,Nat.reduceEqDiff,reduceCtorEq,Zaa,g1,g5,d1]
          exact h u hmu
    · rw [decide_eq_false h35] at p35
      have hmd : Mod (fun _=>False) w w.drew:=(Mod.refl _ _).drew
      cases k with
      | nil =>
        rw [rmatch_nil h35] at h
        have hm0 : m = 0:=hm
        subst hm0
        have k1 : ((((0 : Nat)) : Int) == 0) = true:=rfl
        simp only [ZB,insVc,load1K,iopK,iopV,iaddrK,lenLK,ne_eq,reduceCtorEq,Zab,Za,Int.reduceLE,Int.reduceToNat,Zbh,sopK_eql,e0,hl0,hb,hcv,p35]
        refine draw_e (by kernel_rfl) (by kernel_rfl) (by kernel_rfl) (by kernel_rfl) ?_
        simp only [ZB,endK,resK,packed,insVc,pickK,iopK,iopV,lenLK,ne_eq,Nat.reduceEqDiff,reduceCtorEq,Zab,Za,Zaf,Zaa,Zac,Zag,pureI,kindI,loadI,vcE_nil,vcE_cons,vcE_gate,gateE_false,stepE_pure,k1]
        exact h _ hmd
      | cons y k =>
        obtain ⟨bk,ok,curk,tk,fk,rfl,hbk,hcvk⟩:=hkt 0 (.string ⟨y.toArray⟩) (by simp [stV])
        rw [Nat.add_zero] at hcvk
        have hm1' : m = k.length + 1:=by rw [hm,List.length_cons]
        have k0 : ((m : Int) == 0) = false:=by rw [beq_eq_false_iff_ne]; omega
        have kl0 : (0 : Int) < (m : Int):=by omega
        have hb2 : (0 : Int)≤(1 : Int)∧(1 : Int)≤(m : Int)∧(m : Int)≤((ck : Nat) : Int):=by omega
        have pxy:=leq x y
        have hk1 : ∀ u,Mod (fun _=>False) w u→IsSc u (.slice (if ck = 1 then some ⟨bk,ok,none⟩ else (some ⟨bk,ok,none⟩ : Option Addr).map (·.add 1)) (m - 1) (ck - 1)) (stV k):=fun u hu=>(hk0.keep hu).cut 1 (by omega)
        by_cases h42 : x = [42]
        · rw [decide_eq_true h42] at p42
          rw [rmatch_cons h35,if_neg (fun e=>e.1 h42)] at h
          simp only [ZB,insVc,load1K,iopK,iopV,iaddrK,lenLK,ne_eq,reduceCtorEq,Zab,Za,Int.reduceLE,Int.reduceToNat,Zbh,sopK_eql,e0,hl0,hb,hcv,p35]
          refine draw_e (by kernel_rfl) (by kernel_rfl) (by kernel_rfl) (by kernel_rfl) ?_
          simp only [ZB,insVc,pickK,load1K,iopK,iopV,iaddrK,lenLK,ne_eq,Nat.reduceEqDiff,reduceCtorEq,Zab,Za,Zaf,Zac,Zag,Int.reduceLE,Int.reduceToNat,Zbh,pureI,kindI,loadI,sopK_neq,vcE_nil,vcE_cons,vcE_gate,gateE_true,gateE_false,stepE_pure,stepE_load,hl0,hb,hcv,k0,p42]
          refine draw_e (by kernel_rfl) (by kernel_rfl) (by kernel_rfl) (by kernel_rfl) ?_
          simp only [ZB,endK,resK,packed,insVc,boundOf,slLK,ne_eq,Nat.reduceEqDiff,reduceCtorEq,Zbk,Zbn,Zab,Zad,Zae,Za,Zaf,Zaa,Zac,Zag,Int.reduceToNat,Zax,Zbh,pureI,kindI,loadI,vcE_nil,vcE_cons,stepE_pure,stepE_step,hb1,hb2]
          have hmd' : Mod (fun _=>False) w.drew w.drew.drew:=(Mod.refl _ _).drew
          refine ih k _ _ w.drew.drew _ (hp1 _ (hmd.trans hmd')) (hk1 _ (hmd.trans hmd')) (by omega) (by omega) ?_
          intro u1 hm1
          exact ⟨hmd'.trans hm1,h u1 ((hmd.trans hmd').trans hm1)⟩
        · rw [decide_eq_false h42] at p42
          by_cases hxy : x = y
          · rw [decide_eq_true hxy] at pxy
            rw [rmatch_cons h35,if_neg (fun e=>e.2 hxy)] at h
            simp only [ZB,insVc,load1K,iopK,iopV,iaddrK,lenLK,ne_eq,reduceCtorEq,Zab,Za,Int.reduceLE,Int.reduceToNat,Zbh,sopK_eql,e0,hl0,hb,hcv,p35]
            refine draw_e (by kernel_rfl) (by kernel_rfl) (by kernel_rfl) (by kernel_rfl) ?_
            simp only [ZB,insVc,pickK,load1K,iopK,iopV,iaddrK,lenLK,ne_eq,Nat.reduceEqDiff,reduceCtorEq,Zab,Za,Zaf,Zac,Zag,Int.reduceLE,Int.reduceToNat,Zbh,pureI,kindI,loadI,sopK_neq,vcE_nil,vcE_cons,vcE_gate,gateE_true,stepE_pure,stepE_load,hl0,hb,hcv,k0,p42,kl0,hbk,hcvk,pxy]
            refine draw_e (by kernel_rfl) (by kernel_rfl) (by kernel_rfl) (by kernel_rfl) ?_
            simp only [ZB,endK,resK,packed,insVc,boundOf,slLK,ne_eq,Nat.reduceEqDiff,reduceCtorEq,Zbk,Zbn,Zab,Zad,Zae,Za,Zaf,Zaa,Zac,Zag,Int.reduceToNat,Zax,Zbh,pureI,kindI,loadI,vcE_nil,vcE_cons,stepE_pure,stepE_step,hb1,hb2]
            have hmd' : Mod (fun _=>False) w.drew w.drew.drew:=(Mod.refl _ _).drew
            refine ih k _ _ w.drew.drew _ (hp1 _ (hmd.trans hmd')) (hk1 _ (hmd.trans hmd')) (by omega) (by omega) ?_
            intro u1 hm1
            exact ⟨hmd'.trans hm1,h u1 ((hmd.trans hmd').trans hm1)⟩
          · rw [decide_eq_false hxy] at pxy
            rw [rmatch_cons h35,if_pos ⟨h42,hxy⟩] at h
            simp only [ZB,insVc,load1K,iopK,iopV,iaddrK,lenLK,ne_eq,reduceCtorEq,Zab,Za,Int.reduceLE,Int.reduceToNat,Zbh,sopK_eql,e0,hl0,hb,hcv,p35]
            refine draw_e (by kernel_rfl) (by kernel_rfl) (by kernel_rfl) (by kernel_rfl) ?_
            simp only [ZB,endK,resK,packed,insVc,pickK,load1K,iopK,iopV,iaddrK,lenLK,ne_eq,Nat.reduceEqDiff,reduceCtorEq,Zab,Za,Zaf,Zaa,Zac,Zag,Int.reduceLE,Int.reduceToNat,Zbh,pureI,kindI,loadI,sopK_neq,vcE_nil,vcE_cons,vcE_gate,gateE_true,stepE_pure,stepE_load,hl0,hb,hcv,k0,p42,kl0,hbk,hcvk,pxy]
            exact h _ hmd
def rmatchB (pattern key : ByteArray) : Bool:=rmatch (wordsR pattern) (wordsR key)
theorem rMatch_c (pattern key : ByteArray) (hp : pattern.size < 2 ^ 19) (hk : key.size < 2 ^ 19) (w : World) (K : Value→World→Prop) (h : ∀ w',Mod (fun _=>False) w w'→K (.bool (rmatchB pattern key)) w') :
    Ok Proofs.Tryz.prog 192 #[.string pattern,.string key] w K:=by
  refine F192.enter (args:=[.string pattern,.string key]) (by simp) ?_
  unfold c192 r192
  have hpl:=wordsR_len pattern
  have hkl:=wordsR_len key
  simp only [ZB,insVc,ne_eq,reduceCtorEq,Zab,Zad,Zae,Za]
  refine rwords_c pattern hp w _ ?_
  intro w1 v1 hm1 ho1
  simp only [ZB,insVc,ne_eq,Nat.reduceEqDiff,Zab,Zad,Zae,Za,Zaf]
  refine rwords_c key hk w1 _ ?_
  intro w2 v2 hm2 ho2
  rw [← stV_len] at ho1 ho2
  have hs1:=(IsSc.own ho1).keep hm2
  have hs2:=IsSc.own ho2
  simp only [ZB,insVc,ne_eq,Nat.reduceEqDiff,Zad,Zae]
  refine rmatch_c (wordsR pattern) (wordsR key) v1 v2 w2 _ hs1 hs2 (by omega) (by omega) ?_
  intro w3 hm3
  simp only [ZB,endK,resK,packed,insVc,Zaa]
  exact h w3 ((hm1.trans hm2).trans hm3)
theorem any_range (n : Nat) (f : Nat→Bool) : (List.range n).any f = true ↔ ∃ i,i < n∧f i = true:=by
  rw [List.any_eq_true]
  exact ⟨fun ⟨i,h1,h2⟩=>⟨i,List.mem_range.1 h1,h2⟩,fun ⟨i,h1,h2⟩=>⟨i,List.mem_range.2 h1,h2⟩⟩
theorem step_hash (A : Nat→Bool) (W : Nat→List UInt8) : ∀ j,stepF A [35] W j = true ↔ ∃ i,i≤j∧A i = true:=by
  intro j
  induction j with
  | zero =>
    rw [stepF,if_pos rfl]
    refine ⟨fun h=>⟨0,Nat.le_refl _,h⟩, ?_⟩
    rintro ⟨i,h1,h2⟩
    have h3 : i = 0:=by omega
    rw [h3] at h2; exact h2
  | succ j ih =>
    rw [stepF,if_pos rfl,Bool.or_eq_true,ih]
    constructor
    · rintro (h | ⟨i,h1,h2⟩)
      · exact ⟨j + 1,Nat.le_refl _,h⟩
      · exact ⟨i,by omega,h2⟩
    · rintro ⟨i,h1,h2⟩
      by_cases e : i = j + 1
      · exact .inl (e ▸ h2)
      · exact .inr ⟨i,by omega,h2⟩
theorem at_sound (L : List (List UInt8)) : ∀ (P : List (List UInt8)) (A : Nat→Bool),atF L P A L.length = (List.range (L.length + 1)).any fun i=>A i && rmatch P (L.drop i):=by
  intro P
  induction P with
  | nil =>
    intro A
    rw [Bool.eq_iff_iff,any_range]
    show A L.length = true ↔ _
    constructor
    · intro h
      refine ⟨L.length,by omega, ?_⟩
      rw [h,List.drop_length]; rfl
    · rintro ⟨i,h1,h2⟩
      rw [Bool.and_eq_true] at h2
      have h3 : L.drop i = []:=of_decide_eq_true h2.2
      have h4:=List.drop_eq_nil_iff.1 h3
      have : i = L.length:=by omega
      rw [← this]; exact h2.1
  | cons p ps ih =>
    intro A
    show atF L ps (stepF A p fun i=>(L[i]?).getD []) L.length = _
    rw [ih,Bool.eq_iff_iff,any_range,any_range]
    by_cases h35 : p = [35]
    · subst h35
      constructor
      · rintro ⟨j,h1,h2⟩
        rw [Bool.and_eq_true,step_hash] at h2
        obtain ⟨⟨i,h3,h4⟩,h5⟩:=h2
        refine ⟨i,by omega, ?_⟩
        rw [Bool.and_eq_true,rmatch_any rfl,any_range,List.length_drop]
        refine ⟨h4,j - i,by omega, ?_⟩
        rw [List.drop_drop]
        have : i + (j - i) = j:=by omega
        rw [this]; exact h5
      · rintro ⟨i,h1,h2⟩
        rw [Bool.and_eq_true,rmatch_any rfl,any_range,List.length_drop] at h2
        obtain ⟨h3,d,h4,h5⟩:=h2
        rw [List.drop_drop] at h5
        refine ⟨i + d,by omega, ?_⟩
        rw [Bool.and_eq_true,step_hash]
        exact ⟨⟨i,by omega,h3⟩,h5⟩
    · have hcons : ∀ i,i < L.length→L.drop i = ((L[i]?).getD []) :: L.drop (i + 1):=by
        intro i hi
        rw [List.getElem?_eq_getElem hi]
        exact List.drop_eq_getElem_cons hi
      constructor
      · rintro ⟨j,h1,h2⟩
        rw [Bool.and_eq_true] at h2
        cases j with
        | zero=>rw [stepF,if_neg h35] at h2; exact absurd h2.1 (by simp)
        | succ i =>
          have hi : i < L.length:=by omega
          refine ⟨i,by omega, ?_⟩
          rw [stepF,if_neg h35] at h2
          rw [Bool.and_eq_true,hcons i hi,rmatch_cons h35]
          by_cases h42 : p = [42]
          · rw [if_pos h42] at h2
            rw [if_neg (fun e=>e.1 h42)]
            exact h2
          · rw [if_neg h42,Bool.and_eq_true] at h2
            have hw : (L[i]?).getD [] = p:=of_decide_eq_true h2.1.2
            rw [if_neg (fun e=>e.2 hw.symm)]
            exact ⟨h2.1.1,h2.2⟩
      · rintro ⟨i,h1,h2⟩
        rw [Bool.and_eq_true] at h2
        by_cases hi : i < L.length
        · rw [hcons i hi,rmatch_cons h35] at h2
          refine ⟨i + 1,by omega, ?_⟩
          rw [Bool.and_eq_true,stepF,if_neg h35]
          by_cases h42 : p = [42]
          · rw [if_neg (fun e=>e.1 h42)] at h2
            rw [if_pos h42]
            exact h2
          · by_cases hw : p = (L[i]?).getD []
            · rw [if_neg (fun e=>e.2 hw)] at h2
              rw [if_neg h42,Bool.and_eq_true]
              exact ⟨⟨h2.1,decide_eq_true hw.symm⟩,h2.2⟩
            · rw [if_pos ⟨h42,hw⟩] at h2
              exact absurd h2.2 (by simp)
        · rw [List.drop_of_length_le (by omega),rmatch_nil h35] at h2
          exact absurd h2.2 (by simp)
theorem match_ref (pattern key : ByteArray) : matchB pattern key = rmatchB pattern key:=by
  unfold matchB rmatchB
  rw [at_sound]
  cases h : rmatch (wordsR pattern) (wordsR key) with
  | true=>exact List.any_eq_true.2 ⟨0,List.mem_range.2 (by omega),by simp [at0,h]⟩
  | false =>
    rw [Bool.eq_false_iff]
    intro e
    obtain ⟨i,_,hi⟩:=List.any_eq_true.1 e
    rw [Bool.and_eq_true] at hi
    have h0 : i = 0:=of_decide_eq_true hi.1
    subst h0
    rw [List.drop_zero,h] at hi
    exact absurd hi.2 (by simp)
theorem rfits_c (kind : Int) (pattern key : ByteArray) (hp : pattern.size < 2 ^ 19) (hk : key.size < 2 ^ 19) (w : World) (K : Value→World→Prop) (h : ∀ w',Mod (fun _=>False) w w'→K (.bool (fitsB kind pattern key)) w') :
    Ok Proofs.Tryz.prog 145 #[.int .i64 kind,.string pattern,.string key] w K:=by
  refine F145.enter (args:=[.int .i64 kind,.string pattern,.string key]) (by simp) ?_
  unfold c145 r145
  unfold fitsB at h
  by_cases h1 : kind = 1
  · subst h1
    rw [if_pos rfl] at h
    cases hk : (pattern.toList == key.toList) with
    | true=>rw [hk] at h; simp only [ZB,endK,resK,packed,insVc,pickK,iopK,iopV,sopK,sopV,ne_eq,Nat.reduceEqDiff,reduceCtorEq,Zab,Za,Zaf,Zaa,Zac,Int.reduceBEq,hk]; exact h w (Mod.refl _ _)
    | false=>rw [hk] at h; simp only [ZB,endK,resK,packed,insVc,pickK,iopK,iopV,sopK,sopV,ne_eq,Nat.reduceEqDiff,reduceCtorEq,Zab,Za,Zaf,Zaa,Zac,Zag,Int.reduceBEq,hk]; exact h w (Mod.refl _ _)
  · have b1 : (kind == 1) = false:=by simpa using h1
    rw [if_neg h1] at h
    by_cases h2 : kind = 2
    · subst h2
      simp only [ZB,endK,resK,packed,insVc,pickK,iopK,iopV,ne_eq,Nat.reduceEqDiff,reduceCtorEq,Zab,Za,Zaa,Zac,Zag,Int.reduceBEq,b1]
      exact h w (Mod.refl _ _)
    · have b2 : (kind == 2) = false:=by simpa using h2
      rw [if_neg h2] at h
      by_cases h3 : kind = 3
      · subst h3
        rw [if_pos rfl,match_ref] at h
        simp only [ZB,insVc,pickK,iopK,iopV,ne_eq,Nat.reduceEqDiff,reduceCtorEq,Zab,Zad,Zae,Za,Zaf,Zag,Int.reduceBEq,b1,b2]
        refine rMatch_c pattern key hp hk w _ ?_
        intro w' hm
        simp only [ZB,endK,resK,packed,insVc,pickK,ne_eq,Nat.reduceEqDiff,Zaa,Zac,Zag]
        exact h w' hm
      · have b3 : (kind == 3) = false:=by simpa using h3
        rw [if_neg h3] at h
        simp only [ZB,endK,resK,packed,insVc,pickK,iopK,iopV,ne_eq,Nat.reduceEqDiff,reduceCtorEq,Zab,Za,Zaa,Zag,b1,b2,b3]
        exact h w (Mod.refl _ _)
end Go.Oct
