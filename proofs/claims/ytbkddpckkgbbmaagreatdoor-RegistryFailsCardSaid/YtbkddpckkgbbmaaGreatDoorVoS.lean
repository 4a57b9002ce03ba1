import Derived.Test.YtbkddpckkgbbmaaGreatDoorVoK
import Derived.Test.YtbkddpckkgbbmaaGreatDoorVsA
import Derived.Test.YtbkddpckkgbbmaaGreatDoorTryzIter
set_option linter.unusedSimpArgs false
set_option linter.unusedVariables false
set_option linter.unusedSectionVars false
set_option linter.unnecessarySimpa false
namespace Go.Oct
open Go Go.Vc Go.VrA
set_option maxRecDepth 100000
abbrev Pr:=(List UInt8 × List UInt8) × Int
def rowsV (l : List Pr) : List (List Value):=l.map fun r=>[.agg #[.string ⟨r.1.1.toArray⟩,.string ⟨r.1.2.toArray⟩],.int .i64 r.2]
def okRows (m : M) : List Pr:=m.map fun p=>(p,0)
theorem rowsV_ok (m : M) : rowsV (okRows m) = m.map fun p=>[.agg #[.string ⟨p.1.toArray⟩,.string ⟨p.2.toArray⟩],.int .i64 0]:=by
  simp [rowsV,okRows,Function.comp_def]
theorem IsM.sorted {w : World} {mb n : Nat} {m : M} (h : IsM w mb n m) : SortedM m:=sorted_of_canon (World.ownsMap.canon h (Maps.string_keyed tStr))
theorem IsM.keySize {w : World} {mb n : Nat} {m : M} (h : IsM w mb n m) {p} (hp : p ∈ m) : p.1.length≤maxLen:=by
  obtain ⟨es,he,hk⟩:=World.ownsMap.keysOf h
  have e : encM m = es:=by injection he
  subst e
  obtain ⟨v,hv⟩:=hk (.string p.1,.lit (.string p.2)) (List.mem_map.2 ⟨p,hp,rfl⟩)
  obtain ⟨x,_,h1,h2⟩:=Maps.keyOf_str tStr hv
  cases h1
  exact h2
def RngCells (u : World) (c1 c2 c3 sb : Nat) (a b : ByteArray) : Prop :=
  u.heap[c1]? = some (.cells #[ptr sb] 26 (0,0))∧u.heap[c2]? = some (.cells #[.string a] 9 (0,0))∧u.heap[c3]? = some (.cells #[.string b] 9 (0,0))
theorem rng1_c (c1 c2 c3 sb mb n : Nat) (a b : ByteArray) (m : M) (hml : m.length * 16≤140737488355328) :
    IterP Proofs.Tryz.prog 103 [ptr c1,ptr c2,ptr c3] (rowsV (okRows (rngM a.data.toList b.data.toList m))) (fun u=>IsShelf u sb mb n m∧RngCells u c1 c2 c3 sb a b):=by
  intro y _ J Jx w hJ hF hS hSx hy
  refine F103.enter (args:=[y,ptr c1,ptr c2,ptr c3]) (by simp) ?_
  unfold c103 r103
  obtain ⟨hs,e1,e2,e3⟩:=hF 0 _ _ hJ
  have hsort:=hs.2.1.sorted
  simp only [ZB,insVc,load1K,nilK,faddrK,Zab,Zad,Zae,Za,Zaf,Zah,e1,hs.1]
  refine ok_of_calls (by kernel_rfl) (callsIn_wide.1 (Go.Proofs.Tryz.maps_Keys_105 (some mb) w)) ?_
  rintro e w' ⟨rfl,rfl⟩
  refine ⟨_,rfl, ?_⟩
  simp only [ZB,insVc,Zad,Zae]
  have hsz : Maps.size (DM m) = m.length:=by simp [Maps.size,DM,encM]
  refine ok_of_calls (by kernel_rfl) (callsIn_wide.1 (Go.Proofs.Tryz.slices_Sorted_keys_104_105 mb n (DM m) _ w hs.2.1 (by rw [hsz]; simp only [maxLen]; omega) (by rw [hsz]; exact hml))) ?_
  rintro e w2 ⟨v,ss,rfl,hp,hrow,hnil,hbel⟩
  refine ⟨v,rfl, ?_⟩
  have hm2 : Mod (fun _=>False) w w2:=((Mod.refl _ _).alloc _).trans (Mod.of_below hbel)
  have hks : ss.mergeSort (fun x y=>decide (x≤y)) = m.map (·.1):=sort_keys hsort (by simpa [strKeys,DM,encM,Function.comp_def,strOf] using hp)
  have hlen : ss.length = m.length:=by have:=congrArg List.length hks; simpa using this
  rw [hks,hlen] at hrow
  have hend : ∀ (u : World) (X : Nat→Prop),w.heap.size≤u.heap.size→(∀ k,X k→w.heap.size≤k∧k < u.heap.size)→J (rowsV (okRows (rngM a.data.toList b.data.toList m))).length X u →
      w.heap.size≤u.heap.size∧∃ X,(∀ k,X k→w.heap.size≤k∧k < u.heap.size)∧(J (rowsV (okRows (rngM a.data.toList b.data.toList m))).length X u∨Jx X u):=fun u X h1 h2 h3=>⟨h1,X,h2,.inl h3⟩
  have hJ2 : J 0 (fun k=>w.heap.size≤k∧k < w2.heap.size) w2:=hS 0 _ _ w w2 hJ (hm2.mono fun _ _ x=>x.elim) (fun k hk=>.inr hk)
  have hw2:=hm2.size
  rcases hrow.2 with ⟨rfl,hm0⟩ | ⟨g,cap,cur,rfl,hbg,hg,hnc,hcm,hcs,htake⟩
  · have hm' : m = []:=List.eq_nil_of_length_eq_zero hm0
    subst hm'
    simp only [ZB,insVc,lenLK]
    refine vc_loop (fun _ ρ ds u=>ρ 13 = .int .i64 0∧ρ 14 = .int .i64 0∧ds = []∧u = w2) 0 ⟨rfl,rfl,rfl,rfl⟩ ?_
    rintro _ ρ ds u ⟨h13,h14,rfl,rfl⟩
    simp only [ZB,endK,resK,insVc,iopK,iopV,reduceCtorEq,Int.reduceLT,h13,h14]
    exact hend _ _ hw2 (fun k hk=>hk) hJ2
  · simp only [ZB,insVc,lenLK]
    have hbg' : w.heap.size≤g:=by have:=hbg; rw [size_alloc] at this; omega
    let cnt : Nat→Nat:=fun i=>((m.take i).filter (inR a.data.toList b.data.toList)).length
    have hcell : ∀ (i : Nat) (p : List UInt8 × List UInt8),m[i]? = some p→cur[i]? = some (Value.string ⟨p.1.toArray⟩):=by
      intro i p hi
      have h1 : (cur.toList.take (m.length * 1))[i]? = some (Value.string ⟨p.1.toArray⟩):=by rw [htake]; simp [hi,Go.Proofs.encStr]
      have hlt : i < m.length:=by
        rcases Nat.lt_or_ge i m.length with h | h
        · exact h
        · rw [List.getElem?_eq_none h] at hi; cases hi
      rw [List.getElem?_take,if_pos (by omega)] at h1
      simpa using h1
    refine vc_loop (fun mm ρ ds u => ∃ i X,i≤m.length∧mm = m.length - i∧ρ 0 = y∧ρ 1 = ptr c1∧ρ 2 = ptr c2∧ρ 3 = ptr c3∧ρ 12 = .slice (some ⟨g,0,none⟩) m.length cap∧ρ 13 = .int .i64 m.length∧ρ 14 = .int .i64 i∧ds = [] ∧
      J (cnt i) X u∧(∀ k,X k→w.heap.size≤k∧k < u.heap.size)∧X g∧u.heap[g]? = some (.cells cur 9 (0,0))∧w.heap.size≤u.heap.size) (m.length - 0) ?_ ?_
    · refine ⟨0,fun k=>w.heap.size≤k∧k < w2.heap.size,Nat.zero_le _,rfl, ?_⟩
      simp only [ZB,ne_eq,Nat.reduceEqDiff,reduceCtorEq,Zab,Za,Zaf]
      exact ⟨rfl,hJ2,fun k hk=>hk,⟨hbg',lt_of_get hg⟩,hg,hw2⟩
    · rintro mm ρ ds u ⟨i,X,hi,rfl,h0,h1,h2,h3,h12,h13,h14,rfl,hJu,hX,hXg,hgu,hsu⟩
      simp only [ZB,insVc,iopK,iopV,reduceCtorEq,h13,h14]
      refine condP_split ?_ ?_
      · intro hc
        have hlt : i < m.length:=by have:=of_decide_eq_true hc; omega
        obtain ⟨p,hp⟩ : ∃ p,m[i]? = some p:=⟨m[i],List.getElem?_eq_getElem hlt⟩
        obtain ⟨hs',e1',e2',e3'⟩:=hF _ _ _ hJu
        have hpm : p ∈ m:=List.mem_of_getElem? hp
        have hps:=hs'.2.1.keySize hpm
        have hlk:=look_mem hsort hpm
        have htk : m.take (i + 1) = m.take i ++ [p]:=by rw [List.take_add_one,hp]; rfl
        simp only [ZB,insVc,load1K,sopK,sopV,iaddrK,ne_eq,Nat.reduceEqDiff,Za,Zah,Zax,Zbh,h2,h12,h14,hgu,hcell i p hp,e2',ByteArray.toList_eq]
        refine ⟨by omega, ?_⟩
        have hi1 : IntKind.i64.wrap ((i : Int) + 1) = ((i + 1 : Nat) : Int):=by
          have : m.length≤140737488355328:=by omega
          rw [wrap_i64 _ (by omega)]; omega
        have hskip : inR a.data.toList b.data.toList p = false→cnt (i + 1) = cnt i:=by
          intro hin
          show (((m.take (i + 1)).filter _).length) = _
          rw [htk,List.filter_append,List.filter_cons_of_neg (by rw [hin]; exact Bool.false_ne_true)]
          simp [cnt]
        have htakeit : inR a.data.toList b.data.toList p = true→cnt (i + 1) = cnt i + 1:=by
          intro hin
          show (((m.take (i + 1)).filter _).length) = _
          rw [htk,List.filter_append,List.filter_cons_of_pos hin]
          simp [cnt]
        have hrow : inR a.data.toList b.data.toList p = true→(rowsV (okRows (rngM a.data.toList b.data.toList m)))[cnt i]? = some [.agg #[.string ⟨p.1.toArray⟩,.string ⟨p.2.toArray⟩],.int .i64 0]:=by
          intro hin
          have hsp : m = m.take i ++ p :: m.drop (i + 1):=by
            rw [← List.singleton_append,← List.append_assoc,← htk,List.take_append_drop]
          have e : rngM a.data.toList b.data.toList m = (m.take i).filter (inR a.data.toList b.data.toList) ++ p :: (m.drop (i + 1)).filter (inR a.data.toList b.data.toList):=by
            show m.filter _ = _
            conv=>lhs; rw [hsp]
            rw [List.filter_append,List.filter_cons_of_pos hin]
          rw [rowsV_ok,e]
          simp [cnt]
        cases hA : Op.bytesLess p.1 a.data.toList with
        | true =>
          have hin : inR a.data.toList b.data.toList p = false:=by simp [inR,hA]
          simp only [ZB,insVc,pickK,iopK,iopV,ne_eq,Nat.reduceEqDiff,reduceCtorEq,Zac,h14,hi1]
          refine ⟨m.length - (i + 1),by omega,i + 1,X,by omega,rfl, ?_⟩
          simp only [true_and,h0,h1,h2,h3,h12,h13,hskip hin]
          exact ⟨hJu,hX,hXg,hgu,hsu⟩
        | false =>
          have hyield : inR a.data.toList b.data.toList p = true→∀ G : Value→World→Prop,
              (∀ u',u.heap.size≤u'.heap.size→(∀ k,X k→u'.heap[k]? = u.heap[k]?)→J (cnt i + 1) X u'→G (.bool true) u') →
              (∀ u',u.heap.size≤u'.heap.size→Jx X u'→G (.bool false) u') →
              callvK Proofs.Tryz.prog G u [.agg #[.string ⟨p.1.toArray⟩,.string ⟨p.2.toArray⟩],.int .i64 0] y:=by
            intro hin G g1 g2
            have hr:=hrow hin
            have hlt' : cnt i < (rowsV (okRows (rngM a.data.toList b.data.toList m))).length:=by
              rcases Nat.lt_or_ge (cnt i) (rowsV (okRows (rngM a.data.toList b.data.toList m))).length with h | h
              · exact h
              · rw [List.getElem?_eq_none h] at hr; cases hr
            have hyy:=hy (cnt i) hlt' X u hJu hX hsu
            rw [hr] at hyy
            refine callvK_mono hyy ?_
            rintro v u' ⟨⟨q1,q2⟩,⟨rfl,q3⟩ | ⟨rfl,q3⟩⟩
            · exact g1 u' q1 q2 q3
            · exact g2 u' q1 q3
          cases hB : (b.data.toList == []) <;> cases hC : Op.bytesLess p.1 b.data.toList <;> simp only [ZB,insVc,pickK,load1K,nilK,iopK,iopV,sopK,sopV,faddrK,ne_eq,Nat.reduceEqDiff,reduceCtorEq,Za,Zah,Zac,Zag,h0,h1,h14,h3,e1',e3',hs'.1,ByteArray.toList_eq,hB,hC]
          · have hin : inR a.data.toList b.data.toList p = false:=by simp [inR,hA,hB,hC]
            simp only [hi1]
            refine ⟨m.length - (i + 1),by omega,i + 1,X,by omega,rfl, ?_⟩
            simp only [true_and,h2,h12,h13,hskip hin]
            exact ⟨hJu,hX,hXg,hgu,hsu⟩
          all_goals
            have hin : inR a.data.toList b.data.toList p = true:=by simp [inR,hA,hB,hC]
            refine rawK_lookup rfl rfl rfl (by simpa only [vc_skip,vc_seq,vc_cond,vc_block,vc_exit,vc_ret,vc_ops,vcOps_nil,vcOps_cons,vcOps_gate,gateK_true,gateK_false,gate_true,gate_false,gate_undef,goL_apply,thenQ_normal,thenQ_ret,thenQ_exit,blockQ_normal,blockQ_ret,blockQ_same,blockQ_exit,condP_true,condP_false,upd_same,upd_other,updO_some,updO_none,ev_tmp,ev_const,ev_global,ev_func,endQ_ret,endQ_normal,endK,resK,resN,res1,resO_cells,resNO_cells,packed,initE_at,insVc,pickK,load1K,loadO_cells,loadV_some,loadV_none,loadNK,loadNO_cells,storeK,storeO_cells,storeNK,storeNO_cells,setMany,nilK,nilM,iopK,iopV,sopK,sopV,bopK,nilOf,pnilK,notK,convK,sameK,faddrK,fld1K,fldNK,iaddrK,iaddrAK,sidxK,extK,lenSK,lenLK,callvK,invK,buildK,fillL,buildSK,boundOf,slSK,slLK,slAK,isPlain,Value.cells,ne_eq,not_false_eq_true,not_true_eq_false,Nat.reduceEqDiff,Nat.reduceAdd,Nat.reduceLT,Nat.reduceLeDiff,reduceCtorEq,Bool.not_true,Bool.not_false,Option.map_some,Option.map_none,Option.getD_some,Option.getD_none,List.map_cons,List.map_nil,List.getElem?_cons_zero,List.getElem?_cons_succ,List.getElem?_nil,List.getElem?_toArray,List.size_toArray,List.length_cons,List.length_nil,List.zipIdx_cons,List.zipIdx_nil,List.foldl_cons,List.foldl_nil,List.setIfInBounds_toArray,List.set_cons_zero,List.set_cons_succ,List.append_eq,List.nil_append,List.cons_append,List.append_nil,List.toList_toArray,true_and,and_true,true_or,or_true,or_false,false_or,and_self,if_true,if_false,ite_true,ite_false,Bool.false_eq_true,Nat.zero_add,Nat.add_zero,decide_true,decide_false,Bool.and_true,Bool.and_false,Bool.true_and,Bool.false_and,Option.isNone_some,Option.isNone_none,Int.reduceLT,Int.reduceLE,Int.reduceToNat,Int.toNat_natCast,Int.reduceAdd,Int.reduceSub,Int.reduceMul,Int.reduceNeg,Int.reduceEq,Int.reduceNe,Int.reduceBEq,Int.reduceBNe,Nat.mul_one,List.extract_toArray,List.extract_eq_take_drop,List.drop_zero,List.drop_succ_cons,List.take_zero,List.take_succ_cons,Nat.sub_zero,Nat.add_sub_cancel,Nat.add_sub_cancel_left,vcS_nil,vcS_cons,vcS_gate,gateS_true,gateS_false,stepB_true,stepB_false,pureI,Nat.zero_mul,Nat.one_mul,Nat.reduceMul,Nat.reduceSub,List.all_toArray',List.all_cons,List.all_nil,size_set,size_alloc,size_drew,get_alloc_new,get_set_same,get_drew,Nat.lt_add_one,vcD_nil,vcD_cons,vcD_gate,gateD_true,gateD_false,stepD_pure,stepD_load,stepD_step,kindI,loadI] using hs'.2.1.look ⟨p.1.toArray⟩ (by simpa [ByteArray.size] using hps) false) ?_
            simp only [ZB,insVc,callvK,buildK,fillL,Value.cells,ne_eq,Nat.reduceEqDiff,Nat.reduceAdd,Nat.reduceLeDiff,Zab,Zad,Zae,Zak,Zai,Zaj,Zbc,Zbd,Zba,Zbb,Zal,Zam,Zan,Zbf,Zac,hlk]
            refine hyield hin _ ?_ ?_
            · intro u' q1 q2 q3
              simp only [ZB,insVc,iopK,iopV,notK,ne_eq,Nat.reduceEqDiff,reduceCtorEq,h14,hi1]
              refine ⟨m.length - (i + 1),by omega,i + 1,X,by omega,rfl, ?_⟩
              simp only [true_and,h0,h1,h2,h3,h12,h13,htakeit hin]
              exact ⟨q3,fun k hk=>⟨(hX k hk).1,Nat.lt_of_lt_of_le (hX k hk).2 q1⟩,hXg,(q2 g hXg).trans hgu,Nat.le_trans hsu q1⟩
            · intro u' q1 q3
              simp only [ZB,endK,resK,insVc,notK]
              exact ⟨Nat.le_trans hsu q1,X,fun k hk=>⟨(hX k hk).1,Nat.lt_of_lt_of_le (hX k hk).2 q1⟩,.inr q3⟩
      · intro hc
        have hge : i = m.length:=by have:=of_decide_eq_false hc; omega
        subst hge
        simp only [ZB,endK,resK]
        refine hend u X hsu hX ?_
        have : cnt m.length = (rowsV (okRows (rngM a.data.toList b.data.toList m))).length:=by simp [cnt,rowsV,okRows,rngM]
        rw [← this]; exact hJu
theorem iterP_mono {gf : FuncId} {cap : List Value} {xs : List (List Value)} {F F' : World→Prop} (h : IterP Proofs.Tryz.prog gf cap xs F) (hF : ∀ w,F' w→F w) : IterP Proofs.Tryz.prog gf cap xs F' :=
  fun y yf J Jx w hJ hJF hS hSx hy=>h y yf J Jx w hJ (fun i X u hu=>hF u (hJF i X u hu)) hS hSx hy
theorem rng_c (sb mb n : Nat) (m : M) (a b : ByteArray) (w : World) (K : Value→World→Prop) (hs : IsShelf w sb mb n m) (hml : m.length * 16≤140737488355328)
    (h : ∀ w' gf cap,Mod (fun _=>False) w w'→IterP Proofs.Tryz.prog gf cap (rowsV (okRows (rngM a.data.toList b.data.toList m))) (fun u=>IsShelf u sb mb n m∧Kept w.heap.size w' u)→K (.func (.func gf) #[] cap.toArray) w') :
    Ok Proofs.Tryz.prog 37 #[ptr sb,.string a,.string b] w K:=by
  refine F37.enter (args:=[ptr sb,.string a,.string b]) (by simp) ?_
  unfold c37 r37
  simp only [ZB,endK,resK,packed,insVc,Value.cells,ne_eq,Nat.reduceEqDiff,Zab,Zad,Zae,Za,Zaf,Zaa]
  refine h _ _ [ptr w.heap.size,ptr (w.heap.size + 1),ptr (w.heap.size + 1 + 1)] ((((Mod.refl _ _).alloc _).alloc _).alloc _) (iterP_mono (rng1_c _ _ _ sb mb n a b m hml) ?_)
  rintro u ⟨h1,h2⟩
  refine ⟨h1,h2.at ?_ (Nat.le_refl _),h2.at ?_ (by omega),h2.at ?_ (by omega)⟩ <;> simp only [Nat.reduceEqDiff,Nat.reduceAdd,reduceCtorEq,Zac,Zag,size_alloc,get_alloc,size_alloc,Zaq,Nat.reduceAdd,Zbm,Zbj,Zbl,Nat.reduceEqDiff,Zbi]
end Go.Oct
