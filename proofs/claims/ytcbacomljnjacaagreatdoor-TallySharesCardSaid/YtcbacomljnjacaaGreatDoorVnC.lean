import Derived.Test.YtcbacomljnjacaaGreatDoorVdC
set_option linter.unusedSimpArgs false
set_option linter.unusedVariables false
set_option linter.unusedSectionVars false
set_option linter.unnecessarySimpa false
namespace Go.Oct
open Go Go.Vc Go.VrA Go.VrK Go.VrL Go.Tal
set_option maxRecDepth 100000
theorem condP_genT {A B : Env→List Deferred→World→Prop} {ρ : Env} {ds : List Deferred} {w : World} {v : Value} (h : ∀ W,W = w→condP A B ρ ds W v) : condP A B ρ ds w v:=h w rfl
theorem cells_ext (r : Rw) (hr : r.good) : r.cells.toArray.extract 4 69 = (numV r.cl).toArray:=by
  have hcl : numV r.cl = r.cells.drop 4:=rfl
  rw [hcl]
  apply Array.ext'
  rw [Array.toList_extract]
  simp only [Zap]
  rw [List.take_of_length_le]
  rw [List.length_drop,cells_len r hr]
  omega
theorem cells_set (r : Rw) (i v : Nat) : r.cells.set (4 + i) (.int .u64 (v : Int)) = (Rw.mk r.c r.s r.lo r.hi (r.cl.set i v)).cells:=by
  rw [Nat.add_comm]
  simp [Rw.cells,numV,List.map_set]
theorem cells_at (r : Rw) (i : Nat) : r.cells[4 + i]? = r.cl[i]?.map (fun (n : Nat)=>.int .u64 (n : Int)):=by
  rw [Nat.add_comm]
  simp [Rw.cells,numV]
theorem vc_genT {P : Program} {ro : Option Nat} {n : Nat} {c : CC} {Q : QT} {ρ : Env} {ds : List Deferred} {w : World} (h : ∀ W,W = w→vc P ro n c Q ρ ds W) : vc P ro n c Q ρ ds w:=h w rfl
theorem plus_c (r s : Rw) (w : World) (K : Value→World→Prop) (hr : r.good) (hs : s.good)
    (h : ∀ w',Mod (fun _=>False) w w'→K (r.plus s).val w') : Ok Proofs.Tryz.prog 29 #[r.val,s.val] w K:=by
  refine F29.enter (args:=[r.val,s.val]) (by simp) ?_
  unfold c29 r29
  have hrz : r.cells.toArray.size = 69:=by rw [List.size_toArray]; exact cells_len r hr
  have hsz : s.cells.toArray.size = 69:=by rw [List.size_toArray]; exact cells_len s hs
  have r0 : r.cells.toArray[0]? = some (.int .u64 (r.c : Int)):=rfl
  have s0 : s.cells.toArray[0]? = some (.int .u64 (s.c : Int)):=rfl
  have re : r.cells.toArray.extract 0 69 = r.cells.toArray:=by rw [← hrz]; exact Array.extract_size
  have se : s.cells.toArray.extract 0 69 = s.cells.toArray:=by rw [← hsz]; exact Array.extract_size
  have pr : r.cells.all isPlain = true:=by simp [Rw.cells,numV,isPlain]
  have ps : s.cells.all isPlain = true:=by simp [Rw.cells,numV,isPlain]
  have st0 : (0 : Nat) < 69:=by decide
  simp only [ZB,insVc,load1K,iopK,iopV,faddrK,Value.cells,ne_eq,Nat.reduceEqDiff,Nat.reduceAdd,reduceCtorEq,Zaf,Za,Zag,Zab,Zae,get_alloc,Zaz,Nat.reduceAdd,Zbg,Zba,Nat.reduceEqDiff,Zay,Rw.val,s0]
  refine condP_genT ?_
  intro w1 hw1
  have hm1 : Mod (fun _=>False) w w1:=by rw [hw1]; exact (((Mod.refl _ _).alloc _).alloc _).alloc _
  have a1 : w1.heap[w.heap.size]? = some (.cells r.cells.toArray 42 (0,0)):=by rw [hw1]; simp only [Nat.reduceAdd,reduceCtorEq,Zab,Zae,size_alloc,get_alloc,size_alloc,Zaz,Nat.reduceAdd,Zbi,Zay]
  have b1 : w1.heap[w.heap.size + 1]? = some (.cells s.cells.toArray 42 (0,0)):=by rw [hw1]; simp only [Nat.reduceEqDiff,Nat.reduceAdd,Zab,Zae,size_alloc,get_alloc,size_alloc,Zaz,Nat.reduceAdd,Zbg,Zba,Nat.reduceEqDiff,Zay]
  have c1 : w1.heap[w.heap.size + 2]? = some (.cells Rw.zero.cells.toArray 42 (0,0)):=by rw [hw1]; simp only [Nat.reduceEqDiff,Nat.reduceAdd,reduceCtorEq,Zab,Zae,size_alloc,get_alloc,size_alloc,Zaz,Nat.reduceAdd,Zbg,Zba,Nat.reduceEqDiff]; rfl
  have zz : Rw.zero.cells.toArray.size = 69:=by decide
  have la:=lt_of_get a1
  have lb:=lt_of_get b1
  have lc:=lt_of_get c1
  have zl : 69≤Rw.zero.cells.length:=by decide
  clear hw1
  by_cases hs0 : s.c = 0
  · have k1 : ((s.c : Int) == 0) = true:=by rw [hs0]; rfl
    have e : r.plus s = r:=by unfold Rw.plus; rw [if_pos hs0]
    rw [e] at h
    have se1 : setMany Rw.zero.cells.toArray 0 r.cells = r.cells.toArray:=setMany_all _ _ (by rw [zz,cells_len r hr])
    simp only [ZB,endK,resK,resN,packed,insVc,loadNK,storeNK,isPlain,ne_eq,Nat.reduceEqDiff,Nat.reduceLeDiff,Zai,Zaa,Zau,Zbf,Nat.reduceEqDiff,k1,a1,c1,hrz,re,se1,lc,pr,zl]
    exact h _ ((hm1.set (.inl (by omega))))
  have k1 : ((s.c : Int) == 0) = false:=by simp; omega
  by_cases hr0 : r.c = 0
  · have k2 : ((r.c : Int) == 0) = true:=by rw [hr0]; rfl
    have e : r.plus s = s:=by unfold Rw.plus; rw [if_neg hs0,if_pos hr0]
    rw [e] at h
    have se1 : setMany Rw.zero.cells.toArray 0 s.cells = s.cells.toArray:=setMany_all _ _ (by rw [zz,cells_len s hs])
    simp only [ZB,endK,resK,resN,packed,insVc,load1K,loadNK,storeNK,iopK,iopV,faddrK,isPlain,ne_eq,Nat.reduceEqDiff,Nat.reduceLeDiff,reduceCtorEq,Zai,Zaa,Zau,Zbf,Nat.reduceEqDiff,k1,k2,a1,b1,c1,r0,hsz,se,se1,lc,ps,zl]
    exact h _ ((hm1.set (.inl (by omega))))
  have k2 : ((r.c : Int) == 0) = false:=by simp; omega
  have s1 : s.cells.toArray[1]? = some (.int .u64 (s.s : Int)):=rfl
  have r1 : r.cells.toArray[1]? = some (.int .u64 (r.s : Int)):=rfl
  have nab : w.heap.size≠w.heap.size + 1:=by omega
  have wr : ∀ x y : Nat,IntKind.u64.wrap ((x : Int) + (y : Int)) = (((x + y) % 18446744073709551616 : Nat) : Int):=fun x y=>by rw [IntKind.wrap_u64]; omega
  have hA : r.cells.set 0 (.int .u64 (((r.c + s.c) % 18446744073709551616 : Nat) : Int)) = (Rw.mk ((r.c + s.c) % 18446744073709551616) r.s r.lo r.hi r.cl).cells:=rfl
  have hA1 : (Rw.mk ((r.c + s.c) % 18446744073709551616) r.s r.lo r.hi r.cl).cells[1]? = some (.int .u64 (r.s : Int)):=rfl
  have hB : (Rw.mk ((r.c + s.c) % 18446744073709551616) r.s r.lo r.hi r.cl).cells.set 1 (.int .u64 (((r.s + s.s) % 18446744073709551616 : Nat) : Int)) = (Rw.mk ((r.c + s.c) % 18446744073709551616) ((r.s + s.s) % 18446744073709551616) r.lo r.hi r.cl).cells:=rfl
  have hz1 : 69 = (Rw.mk ((r.c + s.c) % 18446744073709551616) r.s r.lo r.hi r.cl).cells.toArray.size:=by rw [← hrz]; rfl
  simp only [ZB,insVc,load1K,storeK,iopK,iopV,faddrK,isPlain,ne_eq,Nat.reduceEqDiff,Nat.reduceLT,Nat.reduceLeDiff,reduceCtorEq,Zah,Zai,Zal,Zae,Zbf,get_set,Zba,Nat.reduceEqDiff,Nat.reduceLT,Zay,k1,k2,a1,b1,r0,s0,s1,la,hrz,wr,hA,hA1,hB]
  refine ⟨by simp [Rw.cells], ?_⟩
  obtain ⟨R1,hR1⟩ : ∃ R1 : Rw,R1 = ⟨(r.c + s.c) % 18446744073709551616,(r.s + s.s) % 18446744073709551616,r.lo,r.hi,r.cl⟩:=⟨_,rfl⟩
  rw [← hR1]
  refine vc_genT ?_
  intro w2 hw2
  have hm2 : Mod (fun _=>False) w w2:=by rw [hw2]; exact (hm1.set (.inl (Nat.le_refl _))).set (.inl (Nat.le_refl _))
  have a2 : w2.heap[w.heap.size]? = some (.cells R1.cells.toArray 42 (0,0)):=by
    rw [hw2]; exact get_set_same _ _ _ (by simp only [size_set,size_set]; exact la)
  have b2 : w2.heap[w.heap.size + 1]? = some (.cells s.cells.toArray 42 (0,0)):=by
    rw [hw2]; simp only [Zae,size_set,get_set,size_set,Zba,Zay,false_and,b1]
  have c2 : w2.heap[w.heap.size + 2]? = some (.cells Rw.zero.cells.toArray 42 (0,0)):=by
    have nac : w.heap.size≠w.heap.size + 2:=by omega
    rw [hw2]; simp only [reduceCtorEq,Zae,size_set,get_set,size_set,Zba,false_and,c1]
  clear hw2
  have nac : w.heap.size≠w.heap.size + 2:=by omega
  have hh : R1.hi = r.hi:=by rw [hR1]
  have l2 : ∀ c q y h cl,(Rw.mk c q y h cl).cells[2]? = some (.int .u64 (y : Int)):=fun _ _ _ _ _=>rfl
  have l3 : ∀ c q y h cl,(Rw.mk c q y h cl).cells[3]? = some (.int .u64 (h : Int)):=fun _ _ _ _ _=>rfl
  have s2 : s.cells[2]? = some (.int .u64 (s.lo : Int)):=rfl
  have s3 : s.cells[3]? = some (.int .u64 (s.hi : Int)):=rfl
  have mn : (min (r.lo : Int) s.lo) = ((min r.lo s.lo : Nat) : Int):=by omega
  have mx : (max (r.hi : Int) s.hi) = ((max r.hi s.hi : Nat) : Int):=by omega
  refine draw_c (dp:=[[],[0],[],[2],[1,3],[],[5],[],[7],[6,8],[0,1,2,3,4,5,6],[10,4,0,1,2,3,4,5,6],[0,1,2,3,4,5,6,7,8,9,10,11],[12,9,11,0,1,2,3,4,5,6,7,8,9,10,11]]) (N:=13)
    (fun L ρ u=>RegI [(2,ptr w.heap.size),(3,ptr (w.heap.size + 1)),(4,ptr (w.heap.size + 2))]
      [(0,29,.pointer (some ⟨w.heap.size,2,none⟩)),(1,30,.int .u64 (r.lo : Int)),(2,31,.pointer (some ⟨w.heap.size + 1,2,none⟩)),(3,32,.int .u64 (s.lo : Int)),(4,33,.int .u64 (min (r.lo : Int) s.lo)),
       (5,34,.pointer (some ⟨w.heap.size,3,none⟩)),(6,35,.int .u64 (r.hi : Int)),(7,36,.pointer (some ⟨w.heap.size + 1,3,none⟩)),(8,37,.int .u64 (s.hi : Int)),(9,38,.int .u64 (max (r.hi : Int) s.hi)),
       (10,39,.pointer (some ⟨w.heap.size,2,none⟩)),(12,40,.pointer (some ⟨w.heap.size,3,none⟩))] L ρ ∧
      Mod (fun _=>False) w u∧u.heap[w.heap.size + 1]? = some (.cells s.cells.toArray 42 (0,0))∧u.heap[w.heap.size + 2]? = some (.cells Rw.zero.cells.toArray 42 (0,0)) ∧
      ∃ q : Nat,u.heap[w.heap.size]? = some (.cells (Rw.mk R1.c R1.s q R1.hi R1.cl).cells.toArray 42 (0,0))∧(L 11 = false→q = r.lo)∧(L 11 = true→q = min r.lo s.lo))
    (by kernel_rfl) (by kernel_rfl) (by kernel_rfl) (by kernel_rfl) (by kernel_rfl) (by kernel_rfl) rfl rfl (by kernel_rfl) ?_ ?_ ?_
  · refine ⟨RegI.start ?_,hm2.drew,b2,c2,r.lo, ?_,fun _=>rfl,fun h=>(Bool.false_ne_true h).elim⟩
    · intro p hp
      simp only [Zbo,Zbp,or_false] at hp
      rcases hp with rfl | rfl | rfl <;> simp only [ZB,ne_eq,Nat.reduceEqDiff]
    · have : Rw.mk R1.c R1.s r.lo R1.hi R1.cl = R1:=by rw [hR1]
      rw [this]; exact a2
  · rintro L ρ u k x d hk15 hx' hd hL hdeps hcl ⟨hI,hmu,bu,cu,q,au,q1,q2⟩
    have keepq : ∀ k,k≠11→((k == 11 || L 11) = false→q = r.lo)∧((k == 11 || L 11) = true→q = min r.lo s.lo):=by
      intro k hk
      have e : (k == 11) = false:=by simpa using hk
      rw [e,Bool.false_or]
      exact ⟨q1,q2⟩
    obtain rfl | rfl | rfl | rfl | rfl | rfl | rfl | rfl | rfl | rfl | rfl | rfl | rfl : k = 0∨k = 1∨k = 2∨k = 3∨k = 4∨k = 5∨k = 6∨k = 7∨k = 8∨k = 9∨k = 10∨k = 11∨k = 12:=by omega
    all_goals (obtain rfl:=Option.some.inj hx'; obtain rfl:=Option.some.inj hd)
    · simp only [ZB,insVc,faddrK,hI.frm (d:=2) (v:=ptr w.heap.size) (by simp)]
      exact ⟨hI.put 0 29 _ rfl (by simp) rfl,hmu,bu,cu,q,au,by simpa using q1,by simpa using q2⟩
    · have h11 : L 11 = false:=by
        cases h : L 11 with
        | false=>rfl
        | true=>have:=hcl 11 _ rfl h 1 (by decide); rw [this] at hL; cases hL
      obtain rfl:=q1 h11
      simp only [ZB,insVc,load1K,Zah,hI.get (k:=0) (d:=29) (v:=(.pointer (some ⟨w.heap.size,2,none⟩))) (by simp) (hdeps 0 (by decide)),au,l2]
      exact ⟨hI.put 1 30 _ rfl (by simp) rfl,hmu,bu,cu,r.lo,rfl,fun _=>rfl,fun hx=>by simp [h11] at hx⟩
    · simp only [ZB,insVc,faddrK,hI.frm (d:=3) (v:=ptr (w.heap.size + 1)) (by simp)]
      exact ⟨hI.put 2 31 _ rfl (by simp) rfl,hmu,bu,cu,q,au,by simpa using q1,by simpa using q2⟩
    · simp only [ZB,insVc,load1K,Zah,hI.get (k:=2) (d:=31) (v:=(.pointer (some ⟨w.heap.size + 1,2,none⟩))) (by simp) (hdeps 2 (by decide)),bu,s2]
      exact ⟨hI.put 3 32 _ rfl (by simp) rfl,hmu,cu,q,au,by simpa using q1,by simpa using q2⟩
    · simp only [ZB,insVc]
      refine rawK_min2 (k:=.u64) (k':=.u64) (a:=(r.lo : Int)) (b:=(s.lo : Int)) rfl rfl rfl (by simp only [ZB,hI.get (k:=1) (d:=30) (v:=(.int .u64 (r.lo : Int))) (by simp) (hdeps 1 (by decide))]) (by simp only [ZB,hI.get (k:=3) (d:=32) (v:=(.int .u64 (s.lo : Int))) (by simp) (hdeps 3 (by decide))]) ?_
      exact ⟨hI.put 4 33 _ rfl (by simp) rfl,hmu,bu,cu,q,au,by simpa using q1,by simpa using q2⟩
    · simp only [ZB,insVc,faddrK,hI.frm (d:=2) (v:=ptr w.heap.size) (by simp)]
      exact ⟨hI.put 5 34 _ rfl (by simp) rfl,hmu,bu,cu,q,au,by simpa using q1,by simpa using q2⟩
    · simp only [ZB,insVc,load1K,Zah,hI.get (k:=5) (d:=34) (v:=(.pointer (some ⟨w.heap.size,3,none⟩))) (by simp) (hdeps 5 (by decide)),au,l3,hh]
      exact ⟨hI.put 6 35 _ rfl (by simp) rfl,hmu,bu,cu,q,rfl,by simpa using q1,by simpa using q2⟩
    · simp only [ZB,insVc,faddrK,hI.frm (d:=3) (v:=ptr (w.heap.size + 1)) (by simp)]
      exact ⟨hI.put 7 36 _ rfl (by simp) rfl,hmu,bu,cu,q,au,by simpa using q1,by simpa using q2⟩
    · simp only [ZB,insVc,load1K,Zah,hI.get (k:=7) (d:=36) (v:=(.pointer (some ⟨w.heap.size + 1,3,none⟩))) (by simp) (hdeps 7 (by decide)),bu,s3]
      exact ⟨hI.put 8 37 _ rfl (by simp) rfl,hmu,cu,q,au,by simpa using q1,by simpa using q2⟩
    · simp only [ZB,insVc]
      refine rawK_max (k:=.u64) (k':=.u64) (a:=(r.hi : Int)) (b:=(s.hi : Int)) rfl rfl rfl (by simp only [ZB,hI.get (k:=6) (d:=35) (v:=(.int .u64 (r.hi : Int))) (by simp) (hdeps 6 (by decide))]) (by simp only [ZB,hI.get (k:=8) (d:=37) (v:=(.int .u64 (s.hi : Int))) (by simp) (hdeps 8 (by decide))]) ?_
      exact ⟨hI.put 9 38 _ rfl (by simp) rfl,hmu,bu,cu,q,au,by simpa using q1,by simpa using q2⟩
    · simp only [ZB,insVc,faddrK,hI.frm (d:=2) (v:=ptr w.heap.size) (by simp)]
      exact ⟨hI.put 10 39 _ rfl (by simp) rfl,hmu,bu,cu,q,au,by simpa using q1,by simpa using q2⟩
    · simp only [ZB,insVc,storeK,isPlain,Nat.reduceLT,Nat.reduceLeDiff,reduceCtorEq,Zai,Zal,Zae,get_set,Zba,Nat.reduceLT,Zay,false_and,hI.get (k:=10) (d:=39) (v:=(.pointer (some ⟨w.heap.size,2,none⟩))) (by simp) (hdeps 10 (by decide)),hI.get (k:=4) (d:=33) (v:=(.int .u64 (min (r.lo : Int) s.lo))) (by simp) (hdeps 4 (by decide)),au]
      refine ⟨by simp [Rw.cells],hI.mark 11 rfl,hmu.set (.inl (Nat.le_refl _)), ?_, ?_,min r.lo s.lo, ?_,by simp,by simp⟩
      · simp only [bu]
      · simp only [cu]
      · rw [if_pos (lt_of_get au),mn]; rfl
    · simp only [ZB,insVc,faddrK,hI.frm (d:=2) (v:=ptr w.heap.size) (by simp)]
      exact ⟨hI.put 12 40 _ rfl (by simp) rfl,hmu,bu,cu,q,au,by simpa using q1,by simpa using q2⟩
  · rintro L ρ u x hall ⟨hI,hmu,bu,cu,q,au,q1,q2⟩ hx'
    obtain rfl:=Option.some.inj hx'
    obtain rfl:=q2 (hall 11 (by decide))
    have hdeps : ∀ k,k < 13→L k = true:=hall
    simp only [ZB,insVc,loadNK,storeK,faddrK,isPlain,Nat.reduceLT,Nat.reduceLeDiff,Zai,Zal,get_set,Nat.reduceLT,hI.get (k:=12) (d:=40) (v:=(.pointer (some ⟨w.heap.size,3,none⟩))) (by simp) (hdeps 12 (by decide)),hI.get (k:=9) (d:=38) (v:=(.int .u64 (max (r.hi : Int) s.hi))) (by simp) (hdeps 9 (by decide)),au]
    refine ⟨by simp [Rw.cells], ?_⟩
    have h2:=hI.frm (d:=2) (v:=ptr w.heap.size) (by simp)
    have h3:=hI.frm (d:=3) (v:=ptr (w.heap.size + 1)) (by simp)
    have h4:=hI.frm (d:=4) (v:=ptr (w.heap.size + 2)) (by simp)
    have hex:=cells_ext s hs
    have hst : (Rw.mk R1.c R1.s (min r.lo s.lo) R1.hi R1.cl).cells.set 3 (.int .u64 (max (r.hi : Int) s.hi)) = (Rw.mk R1.c R1.s (min r.lo s.lo) (max r.hi s.hi) R1.cl).cells:=by rw [mx]; rfl
    simp only [ZB,insVc,Nat.reduceAdd,Nat.reduceLeDiff,Zae,Nat.reduceAdd,Zba,Zay,false_and,h3,bu,hex,hsz,hst]
    have hcl1 : R1.cl = r.cl:=by rw [hR1]
    refine vc_loop (fun m ρ ds u=>ds = []∧ρ 2 = ptr w.heap.size∧ρ 4 = ptr (w.heap.size + 2)∧ρ 42 = .agg (numV s.cl).toArray∧Mod (fun _=>False) w u∧u.heap[w.heap.size + 2]? = some (.cells Rw.zero.cells.toArray 42 (0,0)) ∧
      ∃ (i : Nat) (cl : List Nat),i + m = 65∧ρ 43 = .int .i64 i∧cl.length = 65∧u.heap[w.heap.size]? = some (.cells (Rw.mk R1.c R1.s (min r.lo s.lo) (max r.hi s.hi) cl).cells.toArray 42 (0,0)) ∧
        ∀ j : Nat,cl[j]? = if j < i then (addL r.cl s.cl)[j]? else r.cl[j]?) 65 ?_ ?_
    · refine ⟨rfl,by simp only [ZB,ne_eq,Nat.reduceEqDiff,h2],by simp only [ZB,ne_eq,Nat.reduceEqDiff,h4],by simp only [ZB,ne_eq,Nat.reduceEqDiff],hmu.set (.inl (Nat.le_refl _)),by simp only [reduceCtorEq,Zae,get_set,Zba,false_and,cu],0,r.cl,rfl,by simp only [ZB]; rfl,hr.len, ?_,fun j=>by simp⟩
      rw [get_set_same _ _ _ (lt_of_get au),hcl1]
    · clear hI au bu cu hmu
      rintro m ρ ds u ⟨rfl,h2,h4,h42,hmu,cu,i,cl,him,h43,hcll,au,hcl⟩
      have lu:=lt_of_get au
      have lcu:=lt_of_get cu
      simp only [ZB,insVc,iopK,iopV,reduceCtorEq,h43]
      by_cases hi : (i : Int) < 65
      · obtain ⟨x,hx⟩ : ∃ x,r.cl[i]? = some x:=⟨_,List.getElem?_eq_getElem (by rw [hr.len]; omega)⟩
        obtain ⟨y,hy⟩ : ∃ y,s.cl[i]? = some y:=⟨_,List.getElem?_eq_getElem (by rw [hs.len]; omega)⟩
        simp only [ZB,insVc,ne_eq,Nat.reduceEqDiff,hi,h43]
        refine rawK_index (v:=.int .u64 (y : Int)) (w':=u) rfl rfl rfl ?_ ?_
        · simp only [ZB,ne_eq,Nat.reduceEqDiff,h42,h43]
          exact run_index_cls _ i (by omega) _ (by rw [List.getElem?_toArray,numV_at,hy]; rfl) u
        have hcx : cl[i]? = some x:=by rw [hcl,if_neg (by omega),hx]
        have hld : (Rw.mk R1.c R1.s (min r.lo s.lo) (max r.hi s.hi) cl).cells[4 + i]? = some (.int .u64 (x : Int)):=by rw [cells_at,hcx]; rfl
        have h0i : (0 : Int)≤(i : Int)∧(i : Int) < ((65 : Nat) : Int):=by omega
        simp only [ZB,insVc,load1K,storeK,iopK,iopV,faddrK,iaddrAK,isPlain,ne_eq,Nat.reduceEqDiff,reduceCtorEq,Zah,Zai,Zal,Zae,Zbj,Zbm,get_set,Zba,Nat.reduceEqDiff,false_and,h2,h4,h42,h43,h0i,au,hld]
        refine ⟨⟨by simp [Rw.cells,numV_len,hcll]; omega,by simp⟩,m - 1,by omega,hmu.set (.inl (Nat.le_refl _)),cu,i + 1,cl.set i ((x + y) % 18446744073709551616),by omega, ?_,by rw [List.length_set]; exact hcll, ?_, ?_⟩
        · rw [wrap_i64 _ (by omega)]; rfl
        · rw [if_pos lu,wr,cells_set]
        · intro j
          have hadd : (addL r.cl s.cl)[i]? = some ((x + y) % 18446744073709551616):=by simp [addL,List.getElem?_zipWith,hx,hy]
          rw [List.getElem?_set]
          by_cases hj : i = j
          · subst hj
            rw [if_pos rfl,if_pos (by omega),if_pos (by omega),hadd]
          · rw [if_neg hj,hcl j]
            by_cases hji : j < i
            · rw [if_pos hji,if_pos (by omega)]
            · rw [if_neg hji,if_neg (by omega)]
      · have hil : i = 65:=by omega
        subst hil
        have hce : cl = addL r.cl s.cl:=by
          apply List.ext_getElem?
          intro j
          rw [hcl j]
          by_cases hj : j < 65
          · rw [if_pos hj]
          · rw [if_neg hj,List.getElem?_eq_none (by rw [hr.len]; omega),List.getElem?_eq_none (by simp [addL,hr.len,hs.len]; omega)]
        have hpl : Rw.mk R1.c R1.s (min r.lo s.lo) (max r.hi s.hi) cl = r.plus s:=by
          unfold Rw.plus
          rw [if_neg hs0,if_neg hr0,hce,hR1]
        rw [hpl] at au
        have hpn : (r.plus s).cells.length = 69:=by rw [← hpl]; simp [Rw.cells,numV_len,hcll]
        have hpz : (r.plus s).cells.toArray.size = 69:=by rw [List.size_toArray]; exact hpn
        have hpe : (r.plus s).cells.toArray.extract 0 69 = (r.plus s).cells.toArray:=by rw [← hpz]; exact Array.extract_size
        have hpp : (r.plus s).cells.all isPlain = true:=by simp [Rw.cells,numV,isPlain]
        have se1 : setMany Rw.zero.cells.toArray 0 (r.plus s).cells = (r.plus s).cells.toArray:=setMany_all _ _ (by rw [zz,hpn])
        simp only [ZB,endK,resK,resN,packed,insVc,loadNK,storeNK,isPlain,ne_eq,Nat.reduceEqDiff,Nat.reduceLeDiff,Zai,Zaa,Zau,Zbf,Nat.reduceEqDiff,hi,h2,h4,au,cu,hpz,hpe,hpp,se1,zl,lcu]
        exact h _ (hmu.set (.inl (by omega)))
end Go.Oct
