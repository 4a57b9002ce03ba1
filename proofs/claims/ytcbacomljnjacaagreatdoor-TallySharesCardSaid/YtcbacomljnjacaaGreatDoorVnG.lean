import Derived.Test.YtcbacomljnjacaaGreatDoorVnF
import Derived.Test.YtcbacomljnjacaaGreatDoorVdC
set_option linter.unusedSimpArgs false
set_option linter.unusedVariables false
set_option linter.unusedSectionVars false
set_option linter.unnecessarySimpa false
namespace Go.Oct
open Go Go.Vc Go.VrA Go.VrB Go.VrE Go.VrH Go.VrI Go.VrJ Go.VrK Go.VrL Go.Tal
set_option maxRecDepth 100000
def IsNs (w : World) (v : Value) (l : List Nat) : Prop :=
  (∃ a c,v = .slice a l.length c)∧∀ (i : Nat) x,l[i]? = some x→∃ b o c cur t f,v = .slice (some ⟨b,o,none⟩) l.length c∧w.heap[b]? = some (.cells cur t f)∧cur[o + i]? = some (.int .u64 (x : Int))
theorem IsNs.keep {w w' : World} {v : Value} {l : List Nat} (h : IsNs w v l) (hm : Mod (fun _=>False) w w') : IsNs w' v l :=
  ⟨h.1,fun i x hx=>by obtain ⟨b,o,c,cur,t,f,h1,h2,h3⟩:=h.2 i x hx; exact ⟨b,o,c,cur,t,f,h1,hm.keep h2 id,h3⟩⟩
theorem row_good (l : List Nat) (hl : l.length < 18446744073709551616) (hb : ∀ n ∈ l,n < 18446744073709551616) : (rowOf l).good:=by
  have hmin : ∀ (l : List Nat) (a : Nat),a < 18446744073709551616→l.foldl min a < 18446744073709551616:=by
    intro l
    induction l with
    | nil=>intro a h; exact h
    | cons x r ih=>intro a h; exact ih _ (by omega)
  refine ⟨hl, ?_, ?_, ?_,by simp [rowOf], ?_⟩
  · show sumN l < _
    rcases List.eq_nil_or_concat l with rfl | ⟨r,x,rfl⟩
    · decide
    · rw [List.concat_eq_append,sumN_append]; exact Nat.mod_lt _ (by decide)
  · show minN l < _
    cases l with
    | nil=>decide
    | cons x r=>exact hmin r x (hb x (by simp))
  · show maxN l < _
    by_cases h0 : l = []
    · subst h0; decide
    · exact hb _ (maxN_mem l h0)
  · intro n hn
    have hn' : n ∈ (List.range 65).map (cAt l):=hn
    obtain ⟨i,_,rfl⟩:=List.mem_map.1 hn'
    exact Nat.lt_of_le_of_lt List.countP_le_length hl
theorem shares_c (l : List Nat) (v : Value) (a b : Nat) (m : Int) (w : World) (K : Value→World→Prop) (hg : Gl m w) (hf : Forms w) (hv : IsNs w v l) (hb : ∀ n ∈ l,n < 18446744073709551616) (ha : a < 4294967296) (hb2 : b < 4294967296)
    (h : ∀ w',Mod (fun _=>False) w w'→K (.bool true) w') : Ok Proofs.Tryz.prog 5 #[v,.int .u32 a,.int .u32 b] w K:=by
  obtain ⟨⟨va,vc',rfl⟩,hat⟩:=id hv
  refine F5.enter (args:=[.slice va l.length vc',.int .u32 a,.int .u32 b]) (by simp) ?_
  unfold c5 r5
  simp only [ZB,insVc,Zac]
  refine awake36_c m w _ hg hf ?_
  intro w1 hm1
  by_cases hl : (l.length : Int) > 100
  · simp only [ZB,endK,resK,packed,insVc,iopK,iopV,notK,lenLK,ne_eq,reduceCtorEq,Zaf,Za,Zaa,hl]
    exact h w1 hm1
  simp only [ZB,insVc,iopK,iopV,notK,lenLK,ne_eq,reduceCtorEq,Zaf,Zac,Za,hl]
  refine newI_c w1 _ ?_
  intro w2 tb mb hm2 htb hmb ht2
  have hw1s:=hm1.size
  simp only [ZB,insVc,lenLK,ne_eq,reduceCtorEq,Zaf,Za]
  have hll : l.length≤100:=by omega
  have hm12:=hm1.trans hm2
  have hk7 : keyOf Proofs.Tryz.prog 3 (.int .i64 7) = some (.int .i64 7):=Maps.keyOf_int_mk tKeyI (by decide)
  refine vc_loop (fun k ρ ds w'=>ds = []∧ρ 0 = .slice va l.length vc'∧ρ 1 = .int .u32 a∧ρ 2 = .int .u32 b∧ρ 7 = ptr tb∧ρ 25 = .slice va l.length vc'∧ρ 26 = .int .i64 l.length∧Mod (fun _=>False) w w' ∧
    ∃ i : Nat,i + k = l.length∧ρ 27 = .int .i64 i∧TalAt 3 95 w' tb mb i (.int .i64 7) (rowOf (l.take i))) l.length ?_ ?_
  · exact ⟨rfl,by simp only [ZB,ne_eq,reduceCtorEq,Zaf,Za],by simp only [ZB,ne_eq,Nat.reduceEqDiff,Zaf,Za,Zag],by simp only [ZB,ne_eq,Nat.reduceEqDiff,Zaf,Za,Zag],by simp only [ZB,ne_eq,Nat.reduceEqDiff],by simp only [ZB,ne_eq,Nat.reduceEqDiff],by simp only [ZB,ne_eq,Nat.reduceEqDiff],hm12,0,by simp,by simp only [ZB]; rfl,by rw [List.take_zero,rowOf_nil]; exact ht2 _⟩
  · rintro k ρ ds w3 ⟨rfl,q0,q1,q2,q7,q25,q26,hm,i,hik,q27,ht⟩
    simp only [ZB,insVc,iopK,iopV,reduceCtorEq,q26,q27]
    by_cases hi : (i : Int) < l.length
    · obtain ⟨x,hx⟩ : ∃ x,l[i]? = some x:=⟨_,List.getElem?_eq_getElem (by omega)⟩
      obtain ⟨bk,o,c,cur,t,f,e1,e2,e3⟩:=(hv.keep hm).2 i x hx
      obtain ⟨rfl,rfl⟩ : va = some ⟨bk,o,none⟩∧vc' = c:=by
        have:=e1; simp only [Value.slice.injEq] at this; exact ⟨this.1,this.2.2⟩
      have hxl:=hb x (List.mem_of_getElem? hx)
      have h0i : (0 : Int)≤(i : Int)∧(i : Int) < (l.length : Int):=by omega
      simp only [ZB,insVc,load1K,iaddrK,ne_eq,Nat.reduceEqDiff,Zad,Zac,Zbj,Zbm,hi,h0i,q7,q25,q27,e2,e3]
      have htk : (l.take i).length < 18446744073709551615:=by rw [List.length_take]; omega
      have hbk : ∀ n ∈ l.take i,n < 18446744073709551616:=fun n hn=>hb n (List.mem_of_mem_take hn)
      refine addI_c tb mb i x _ _ (rowOf (l.take i)) w3 _ (row_good _ (by omega) hbk) hxl ht hk7 trivial (by simp [maxLen]; omega) ?_
      intro w4 v4 hm4 ht4
      have e : l.take (i + 1) = l.take i ++ [x]:=by rw [List.take_add_one,hx]; rfl
      rw [row_plus _ x hxl htk,← e] at ht4
      simp only [ZB,insVc,iopK,iopV,ne_eq,Nat.reduceEqDiff,reduceCtorEq,q0,q1,q2,q7,q25,q26,q27]
      have hs12:=hm12.size
      refine ⟨k - 1,by omega,hm.then hm4 (fun j hj y=>by omega),i + 1,by omega, ?_,ht4⟩
      rw [wrap_i64 _ (by omega)]; rfl
    · have hil : i = l.length:=by omega
      subst hil
      rw [List.take_length] at ht
      simp only [ZB,insVc,ne_eq,Nat.reduceEqDiff,Zad,Zac,hi,q7]
      have hrg:=row_good l (by omega) hb
      refine ofI_c tb mb _ _ (.int .i64 7) (rowOf l) w3 _ hrg ht hk7 ?_
      intro w4 hm4
      obtain ⟨R,hR⟩ : ∃ R,R = rowOf l:=⟨_,rfl⟩
      rw [← hR] at hrg ⊢
      have hrz : R.cells.toArray.size = 69:=by rw [List.size_toArray]; exact cells_len R hrg
      have re : R.cells.toArray.extract 0 69 = R.cells.toArray:=by rw [← hrz]; exact Array.extract_size
      have pr : R.cells.all isPlain = true:=by simp [Rw.cells,numV,isPlain]
      have se : ∀ cs : Array Value,cs.size = R.cells.length→setMany cs 0 R.cells = R.cells.toArray:=fun cs h=>setMany_all cs R.cells h
      simp only [ZB,insVc,storeNK,isPlain,Value.cells,ne_eq,Nat.reduceEqDiff,Nat.reduceAdd,Nat.reduceLeDiff,Zai,Zaj,Zak,Zab,Zau,get_alloc,Nat.reduceAdd,Nat.reduceEqDiff,Rw.val,pr,cells_len R hrg,se]
      refine vc_genT ?_
      intro w5 hw5
      have hm5 : Mod (fun _=>False) w4 w5:=by rw [hw5]; exact ((Mod.refl _ _).alloc _).set (.inl (Nat.le_refl _))
      have r5 : w5.heap[w4.heap.size]? = some (.cells R.cells.toArray 42 (0,0)):=by rw [hw5]; exact get_set_same _ _ _ (by simp only [size_alloc,Zb,size_alloc])
      clear hw5
      have mn : (min (a : Int) b) = ((min a b : Nat) : Int):=by omega
      have mx : (max (a : Int) b) = ((max a b : Nat) : Int):=by omega
      have hRc : R.c = l.length:=by rw [hR]; rfl
      have hprod : ∀ x : Nat,x < 4294967296→R.c * x < 18446744073709551616:=fun x hx=>by
        have : R.c * x≤100 * 4294967296:=Nat.mul_le_mul (by omega) (by omega)
        omega
      refine draw_i (dp:=[[],[],[],[1,2],[3],[],[0,4,5],[],[],[],[8,9],[10],[],[7,11,12,6],[6,13,0,1,2,3,4,5,6],[13,14,0,1,2,3,4,5,6,7,8,9,10,11,12,13,14]])
        (fun L ρ u=>RegI [(0,.slice va l.length vc'),(1,.int .u32 (a : Int)),(2,.int .u32 (b : Int)),(10,ptr w4.heap.size),(11,.int .u64 4294967295)]
          [(0,37,R.val),(1,38,(.int .u32 (a : Int))),(2,39,(.int .u32 (b : Int))),(3,40,(.int .u32 ((min a b : Nat) : Int))),(4,41,(.int .u64 ((min a b : Nat) : Int))),(5,42,(.int .u64 4294967295)),(6,43,(.int .i64 (R.at (min a b) 4294967295 : Nat))),(7,44,R.val),(8,45,(.int .u32 (a : Int))),(9,46,(.int .u32 (b : Int))),(10,47,(.int .u32 ((max a b : Nat) : Int))),(11,48,(.int .u64 ((max a b : Nat) : Int))),(12,49,(.int .u64 4294967295)),(13,50,(.int .i64 (R.at (max a b) 4294967295 : Nat))),(14,12,(.int .i64 (R.at (min a b) 4294967295 : Nat))),(15,13,(.int .i64 (R.at (max a b) 4294967295 : Nat)))] L ρ∧Mod (fun _=>False) w5 u)
        (by kernel_rfl) (by kernel_rfl) (by kernel_rfl) (by kernel_rfl) (by kernel_rfl) ?_ ?_ ?_
      · refine ⟨RegI.start ?_,(Mod.refl _ _).drew⟩
        intro p hp
        simp only [Zbo,Zbp,or_false] at hp
        rcases hp with rfl | rfl | rfl | rfl | rfl <;> simp only [ZB,ne_eq,Nat.reduceEqDiff,reduceCtorEq,q0,q1,q2]
      · rintro L ρ u k y d hx' hd hL hdeps ⟨hI,hmu⟩
        have ru:=hmu.keep r5 id
        have hk16 : k < 16:=(List.getElem?_eq_some_iff.1 hd).1
        obtain rfl | rfl | rfl | rfl | rfl | rfl | rfl | rfl | rfl | rfl | rfl | rfl | rfl | rfl | rfl | rfl : k = 0∨k = 1∨k = 2∨k = 3∨k = 4∨k = 5∨k = 6∨k = 7∨k = 8∨k = 9∨k = 10∨k = 11∨k = 12∨k = 13∨k = 14∨k = 15:=by omega
        all_goals (obtain rfl:=Option.some.inj hx'; obtain rfl:=Option.some.inj hd)
        · simp only [ZB,insVc,loadNK,Nat.reduceLeDiff,hI.frm (d:=10) (v:=ptr w4.heap.size) (by simp),ru,hrz,re]
          exact ⟨hI.put 0 37 _ rfl (by simp [Rw.val]) rfl,hmu⟩
        · simp only [ZB,insVc,hI.frm (d:=1) (v:=(.int .u32 (a : Int))) (by simp)]
          exact ⟨hI.put 1 38 _ rfl (by simp) rfl,hmu⟩
        · simp only [ZB,insVc,hI.frm (d:=2) (v:=(.int .u32 (b : Int))) (by simp)]
          exact ⟨hI.put 2 39 _ rfl (by simp) rfl,hmu⟩
        · simp only [ZB,insVc]
          refine rawK_min2 (k:=.u32) (k':=.u32) (a:=(a : Int)) (b:=(b : Int)) rfl rfl rfl (by simp only [ZB,hI.get (k:=1) (d:=38) (v:=(.int .u32 (a : Int))) (by simp) (hdeps 1 (by decide))]) (by simp only [ZB,hI.get (k:=2) (d:=39) (v:=(.int .u32 (b : Int))) (by simp) (hdeps 2 (by decide))]) ?_
          rw [mn]
          exact ⟨hI.put 3 40 _ rfl (by simp) rfl,hmu⟩
        · simp only [ZB,insVc,convK,hI.get (k:=3) (d:=40) (v:=(.int .u32 ((min a b : Nat) : Int))) (by simp) (hdeps 3 (by decide))]
          rw [wrap_u64' _ (by omega)]
          exact ⟨hI.put 4 41 _ rfl (by simp) rfl,hmu⟩
        · simp only [ZB,insVc,hI.frm (d:=11) (v:=(.int .u64 4294967295)) (by simp)]
          exact ⟨hI.put 5 42 _ rfl (by simp) rfl,hmu⟩
        · simp only [ZB,insVc,Zad,Zac,hI.get (k:=0) (d:=37) (v:=R.val) (by simp) (hdeps 0 (by decide)),hI.get (k:=4) (d:=41) (v:=(.int .u64 ((min a b : Nat) : Int))) (by simp) (hdeps 4 (by decide)),hI.get (k:=5) (d:=42) (v:=(.int .u64 4294967295)) (by simp) (hdeps 5 (by decide))]
          refine at_c R _ 4294967295 u _ hrg (by omega) (by omega) (hprod _ (by omega)) ?_
          intro u2 hm2
          exact ⟨hI.put 6 43 _ rfl (by simp) rfl,hmu.trans hm2⟩
        · simp only [ZB,insVc,loadNK,Nat.reduceLeDiff,hI.frm (d:=10) (v:=ptr w4.heap.size) (by simp),ru,hrz,re]
          exact ⟨hI.put 7 44 _ rfl (by simp [Rw.val]) rfl,hmu⟩
        · simp only [ZB,insVc,hI.frm (d:=1) (v:=(.int .u32 (a : Int))) (by simp)]
          exact ⟨hI.put 8 45 _ rfl (by simp) rfl,hmu⟩
        · simp only [ZB,insVc,hI.frm (d:=2) (v:=(.int .u32 (b : Int))) (by simp)]
          exact ⟨hI.put 9 46 _ rfl (by simp) rfl,hmu⟩
        · simp only [ZB,insVc]
          refine rawK_max (k:=.u32) (k':=.u32) (a:=(a : Int)) (b:=(b : Int)) rfl rfl rfl (by simp only [ZB,hI.get (k:=8) (d:=45) (v:=(.int .u32 (a : Int))) (by simp) (hdeps 8 (by decide))]) (by simp only [ZB,hI.get (k:=9) (d:=46) (v:=(.int .u32 (b : Int))) (by simp) (hdeps 9 (by decide))]) ?_
          rw [mx]
          exact ⟨hI.put 10 47 _ rfl (by simp) rfl,hmu⟩
        · simp only [ZB,insVc,convK,hI.get (k:=10) (d:=47) (v:=(.int .u32 ((max a b : Nat) : Int))) (by simp) (hdeps 10 (by decide))]
          rw [wrap_u64' _ (by omega)]
          exact ⟨hI.put 11 48 _ rfl (by simp) rfl,hmu⟩
        · simp only [ZB,insVc,hI.frm (d:=11) (v:=(.int .u64 4294967295)) (by simp)]
          exact ⟨hI.put 12 49 _ rfl (by simp) rfl,hmu⟩
        · simp only [ZB,insVc,Zad,Zac,hI.get (k:=7) (d:=44) (v:=R.val) (by simp) (hdeps 7 (by decide)),hI.get (k:=11) (d:=48) (v:=(.int .u64 ((max a b : Nat) : Int))) (by simp) (hdeps 11 (by decide)),hI.get (k:=12) (d:=49) (v:=(.int .u64 4294967295)) (by simp) (hdeps 12 (by decide))]
          refine at_c R _ 4294967295 u _ hrg (by omega) (by omega) (hprod _ (by omega)) ?_
          intro u2 hm2
          exact ⟨hI.put 13 50 _ rfl (by simp) rfl,hmu.trans hm2⟩
        · simp only [ZB,insVc,hI.get (k:=6) (d:=43) (v:=(.int .i64 (R.at (min a b) 4294967295 : Nat))) (by simp) (hdeps 6 (by decide))]
          exact ⟨hI.put 14 12 _ rfl (by simp) rfl,hmu⟩
        · simp only [ZB,insVc,hI.get (k:=13) (d:=50) (v:=(.int .i64 (R.at (max a b) 4294967295 : Nat))) (by simp) (hdeps 13 (by decide))]
          exact ⟨hI.put 15 13 _ rfl (by simp) rfl,hmu⟩
      · rintro L ρ u hall ⟨hI,hmu⟩
        have q0:=hI.frm (d:=0) (v:=.slice va l.length vc') (by simp)
        have q10:=hI.frm (d:=10) (v:=ptr w4.heap.size) (by simp)
        have q12:=hI.get (k:=14) (d:=12) (v:=(.int .i64 (R.at (min a b) 4294967295 : Nat))) (by simp) (hall 14 (by decide))
        have q13:=hI.get (k:=15) (d:=13) (v:=(.int .i64 (R.at (max a b) 4294967295 : Nat))) (by simp) (hall 15 (by decide))
        have ru:=hmu.keep r5 id
        have hmw : Mod (fun _=>False) w u:=((hm.trans hm4).trans hm5).trans hmu
        clear hI hall L
        simp only [ZB,insVc,loadNK,Nat.reduceLeDiff,Zad,Zac,q10,ru,hrz,re]
        refine at_c R 1 2 u _ hrg (by decide) (by decide) (by omega) ?_
        intro u1 hm1u
        obtain ⟨half,hhalf⟩ : ∃ half,half = R.at 1 2:=⟨_,rfl⟩
        have hh64 : half≤64:=by rw [hhalf,hR]; exact at_le l (by omega) hb 1 2
        rw [← hhalf]
        have hmw1:=hmw.trans hm1u
        have ru1:=hm1u.keep ru id
        have hv0 : IsNs w (.slice va l.length vc') l:=hv
        simp only [ZB,insVc,lenLK,ne_eq,reduceCtorEq,q0]
        refine vc_loop (fun k ρ ds w'=>ds = []∧ρ 0 = .slice va l.length vc'∧ρ 10 = ptr w4.heap.size∧ρ 12 = (.int .i64 (R.at (min a b) 4294967295 : Nat))∧ρ 13 = (.int .i64 (R.at (max a b) 4294967295 : Nat))∧ρ 14 = .int .i64 half∧ρ 53 = .slice va l.length vc'∧ρ 54 = .int .i64 l.length∧Mod (fun _=>False) w w'∧w'.heap[w4.heap.size]? = some (.cells R.cells.toArray 42 (0,0)) ∧
          ∃ i : Nat,i + k = l.length∧ρ 55 = .int .i64 i∧ρ 15 = .int .i64 (pre (l.take i) half : Nat)∧ρ 16 = .int .i64 (below (l.take i) half : Nat)) l.length ?_ ?_
        · exact ⟨rfl,by simp only [ZB,ne_eq,reduceCtorEq,q0],by simp only [ZB,ne_eq,Nat.reduceEqDiff,q10],by simp only [ZB,ne_eq,Nat.reduceEqDiff,q12],by simp only [ZB,ne_eq,Nat.reduceEqDiff,q13],by simp only [ZB,ne_eq,Nat.reduceEqDiff],by simp only [ZB,ne_eq,Nat.reduceEqDiff],by simp only [ZB,ne_eq,Nat.reduceEqDiff],hmw1,ru1,0,by simp,by simp only [ZB]; rfl,by simp only [ZB,ne_eq,Nat.reduceEqDiff,Zao]; rfl,by simp only [ZB,ne_eq,Nat.reduceEqDiff,Zao]; rfl⟩
        · clear ru ru1 hmw hmw1 q0 q10 q12 q13
          rintro k ρ ds w6 ⟨rfl,q0,q10,q12,q13,q14,q53,q54,hm6,r6,i,hik,q55,q15,q16⟩
          simp only [ZB,insVc,iopK,iopV,reduceCtorEq,q54,q55]
          by_cases hi : (i : Int) < l.length
          · obtain ⟨x,hx⟩ : ∃ x,l[i]? = some x:=⟨_,List.getElem?_eq_getElem (by omega)⟩
            obtain ⟨bk,o,c,cur,t,f,e1,e2,e3⟩:=(hv0.keep hm6).2 i x hx
            obtain ⟨rfl,rfl⟩ : va = some ⟨bk,o,none⟩∧vc' = c:=by
              have:=e1; simp only [Value.slice.injEq] at this; exact ⟨this.1,this.2.2⟩
            have hxl:=hb x (List.mem_of_getElem? hx)
            have h0i : (0 : Int)≤(i : Int)∧(i : Int) < (l.length : Int):=by omega
            have et : l.take (i + 1) = l.take i ++ [x]:=by rw [List.take_add_one,hx]; rfl
            have hpl : pre (l.take i) half≤100:=Nat.le_trans (pre_le _ _) (by rw [List.length_take]; omega)
            have hbl : below (l.take i) half≤100:=Nat.le_trans List.countP_le_length (by rw [List.length_take]; omega)
            have ep : pre (l.take (i + 1)) half = pre (l.take i) half + (if cls x≤half then 1 else 0):=by
              rw [et]; unfold pre; rw [List.countP_append,List.countP_singleton]; simp only [decide_eq_true_eq]
            have eb : below (l.take (i + 1)) half = below (l.take i) half + (if cls x < half then 1 else 0):=by
              rw [et]; unfold below; rw [List.countP_append,List.countP_singleton]; simp only [decide_eq_true_eq]
            simp only [ZB,insVc,load1K,iaddrK,ne_eq,Nat.reduceEqDiff,Zad,Zac,Zbj,Zbm,hi,h0i,q53,q55,e2,e3]
            refine class_c x w6 _ hxl ?_
            have w1 : IntKind.i64.wrap ((i : Int) + 1) = ((i + 1 : Nat) : Int):=by rw [wrap_i64 _ (by omega)]; rfl
            have w2 : IntKind.i64.wrap ((pre (l.take i) half : Nat) + 1 : Int) = ((pre (l.take i) half + 1 : Nat) : Int):=by rw [wrap_i64 _ (by omega)]; rfl
            have w3 : IntKind.i64.wrap ((below (l.take i) half : Nat) + 1 : Int) = ((below (l.take i) half + 1 : Nat) : Int):=by rw [wrap_i64 _ (by omega)]; rfl
            by_cases c1 : cls x≤half
            · have d1 : ((cls x : Nat) : Int)≤(half : Int):=by omega
              simp only [ZB,insVc,iopK,iopV,ne_eq,Nat.reduceEqDiff,reduceCtorEq,Zad,Zac,d1,q14,q15]
              refine class_c x w6 _ hxl ?_
              by_cases c2 : cls x < half
              · have d2 : ((cls x : Nat) : Int) < (half : Int):=by omega
                simp only [ZB,insVc,iopK,iopV,ne_eq,Nat.reduceEqDiff,reduceCtorEq,d2,q0,q10,q12,q13,q14,q53,q54,q55,q16,w1,w2,w3]
                rw [if_pos c1] at ep
                rw [if_pos c2] at eb
                exact ⟨k - 1,by omega,hm6,r6,i + 1,by omega,rfl,by rw [ep],by rw [eb]⟩
              · have d2 : ¬ ((cls x : Nat) : Int) < (half : Int):=by omega
                simp only [ZB,insVc,iopK,iopV,ne_eq,Nat.reduceEqDiff,reduceCtorEq,d2,q0,q10,q12,q13,q14,q53,q54,q55,q16,w1,w2]
                rw [if_pos c1] at ep
                rw [if_neg c2] at eb
                exact ⟨k - 1,by omega,hm6,r6,i + 1,by omega,rfl,by rw [ep],by rw [eb]; rfl⟩
            · have d1 : ¬ ((cls x : Nat) : Int)≤(half : Int):=by omega
              simp only [ZB,insVc,iopK,iopV,ne_eq,Nat.reduceEqDiff,reduceCtorEq,Zad,Zac,d1,q14]
              refine class_c x w6 _ hxl ?_
              have d2 : ¬ ((cls x : Nat) : Int) < (half : Int):=by omega
              simp only [ZB,insVc,iopK,iopV,ne_eq,Nat.reduceEqDiff,reduceCtorEq,d2,q0,q10,q12,q13,q14,q53,q54,q55,q15,q16,w1]
              rw [if_neg c1] at ep
              rw [if_neg (by omega)] at eb
              exact ⟨k - 1,by omega,hm6,r6,i + 1,by omega,rfl,by rw [ep]; rfl,by rw [eb]; rfl⟩
          · have hil : i = l.length:=by omega
            subst hil
            rw [List.take_length] at q15 q16
            simp only [ZB,hi]
            refine draw_s (fun w'=>Mod (fun _=>False) w6 w') (by kernel_rfl) (by kernel_rfl) (by kernel_rfl) (Mod.refl _ _).drew ?_
            have hl60 : l.length < 18446744073709551616:=by omega
            have t1 : ((R.at (min a b) 4294967295 : Nat) : Int)≤(R.at (max a b) 4294967295 : Nat):=by
              rw [hR]; have:=at_mono l hl60 hb (min a b) (max a b) 4294967295 (by omega) (by decide); omega
            have hpl : pre l half≤100:=Nat.le_trans (pre_le _ _) (by omega)
            have hbl : below l half≤100:=Nat.le_trans List.countP_le_length (by omega)
            have w2 : IntKind.i64.wrap (2 * ((pre l half : Nat) : Int)) = ((2 * pre l half : Nat) : Int):=by rw [wrap_i64 _ (by omega)]; rfl
            have w3 : IntKind.i64.wrap (2 * ((below l half : Nat) : Int)) = ((2 * below l half : Nat) : Int):=by rw [wrap_i64 _ (by omega)]; rfl
            have t2 : ((2 * pre l half : Nat) : Int) ≥ (l.length : Int):=by rw [hhalf,hR]; have:=half_low l hl60 hb; omega
            by_cases h0 : l = []
            · have z0 : ((l.length : Int) == 0) = true:=by rw [h0]; rfl
              simp only [ZB,endK,resK,packed,insVc,pickK,iopK,iopV,lenLK,ne_eq,Nat.reduceEqDiff,reduceCtorEq,Zaa,Zab,vcS_nil,vcS_cons,vcS_gate,gateS_true,gateS_false,stepB_true,pureI,q0,q12,q13,q15,t1,t2,w2,z0]
              intro w' hm'
              exact h w' (hm6.trans hm')
            · have z0 : ((l.length : Int) == 0) = false:=by
                have : l.length≠0:=by simpa using h0
                simp; exact h0
              have t3 : ((2 * below l half : Nat) : Int) < (l.length : Int):=by rw [hhalf,hR]; have:=half_below l hl60 hb h0; omega
              simp only [ZB,endK,resK,packed,insVc,pickK,iopK,iopV,faddrK,lenLK,ne_eq,Nat.reduceEqDiff,reduceCtorEq,Zaa,Zab,Zae,vcS_nil,vcS_cons,vcS_gate,gateS_true,stepB_true,stepB_false,pureI,q0,q10,q12,q13,q15,q16,t1,t2,t3,w2,w3,z0]
              refine ⟨R.val,fun u hu => ?_, ?_⟩
              · have ru:=hu.keep r6 id
                simp only [ZB,insQ,insVc,loadNK,ne_eq,Nat.reduceEqDiff,Nat.reduceLeDiff,q10,ru,hrz,re,Rw.val]
              have hful : R.at 1 1 = cls R.hi:=by rw [hR]; exact at_full l hl60 hb h0
              simp only []
              refine look_call (.int .i64 (R.at 1 1 : Nat)) (fun u hu=>at_c R 1 1 u _ hrg (by decide) (by decide) (by omega) (fun u' hm'=>⟨rfl,hu.trans hm'⟩)) ?_
              refine look_load (b:=w4.heap.size) (o:=3) (v:=.int .u64 (R.hi : Int)) (by simp only [ZB]) (fun u hu=>⟨_,_,_,hu.keep r6 id,rfl⟩) ?_
              refine look_call (.int .i64 (cls R.hi : Nat)) (fun u hu=>class_c R.hi u _ hrg.hi ⟨rfl,hu⟩) ?_
              have hel : (((R.at 1 1 : Nat) : Int) == (cls R.hi : Nat)) = true:=by rw [hful]; simp
              simp only [true_and,hel]
              intro w' hm'
              exact h w' (hm6.trans hm')
end Go.Oct
