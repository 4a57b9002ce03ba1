import Derived.Test.YtcbacomljnjacaaGreatDoorVoI
import Derived.Sort.Walk0
import Derived.Sort.KeysCollected
import Derived.Maps.Ext
import Derived.Test.YtcbacomljnjacaaGreatDoorVoA
set_option linter.unusedSimpArgs false
set_option linter.unusedVariables false
set_option linter.unusedSectionVars false
set_option linter.unnecessarySimpa false
namespace Go.Oct
open Go Go.Vc Go.VrA
set_option maxRecDepth 100000
def RowAt {α : Type} (w : World) (v : Value) (e : TypeId) (s : Nat) (cells : α→List Value) (l : List α) : Prop :=
  ∃ g off cap cur,v = .slice (some ⟨g,off,none⟩) l.length cap∧w.heap[g]? = some (.cells cur e (0,0))∧(cur.toList.drop off).take (l.length * s) = l.flatMap cells
theorem row_len {α : Type} {s : Nat} {cells : α→List Value} (hc : ∀ a,(cells a).length = s) (l : List α) : (l.flatMap cells).length = l.length * s:=by
  induction l with
  | nil=>simp
  | cons p l ih=>rw [List.flatMap_cons,List.length_append,hc,ih,List.length_cons,Nat.add_mul]; omega
theorem row_drop {α : Type} {s : Nat} {cells : α→List Value} (hc : ∀ a,(cells a).length = s) : ∀ (l : List α) (j : Nat),(l.flatMap cells).drop (j * s) = (l.drop j).flatMap cells:=by
  intro l
  induction l with
  | nil=>intro j; simp
  | cons p l ih =>
    intro j
    cases j with
    | zero=>simp
    | succ j =>
      have : (j + 1) * s = s + j * s:=by rw [Nat.add_mul]; omega
      rw [this,← List.drop_drop,List.flatMap_cons,List.drop_left' (hc p),ih,List.drop_succ_cons]
theorem row_at {α : Type} {s off : Nat} {cells : α→List Value} (hc : ∀ a,(cells a).length = s) {cur : Array Value} {l : List α} (h : (cur.toList.drop off).take (l.length * s) = l.flatMap cells) {j : Nat} {p : α} (hj : l[j]? = some p) (h0 : 0 < s) :
    off + j * s + s≤cur.size∧cur.extract (off + j * s) (off + j * s + s) = (cells p).toArray:=by
  obtain ⟨hlt,he⟩:=List.getElem?_eq_some_iff.1 hj
  have hlen:=row_len hc l
  have hs : cur.toList.length = cur.size:=Array.length_toList
  have hle : l.length * s≤cur.size - off:=by
    have:=congrArg List.length h
    rw [hlen,List.length_take,List.length_drop] at this
    omega
  have hjs : j * s + s≤l.length * s:=by rw [← Nat.succ_mul]; exact Nat.mul_le_mul_right _ hlt
  refine ⟨by omega, ?_⟩
  apply Array.ext'
  have e : (cur.extract (off + j * s) (off + j * s + s)).toList = ((cur.toList.drop off).drop (j * s)).take s:=by
    rw [List.drop_drop]
    simp [List.take_drop,Nat.add_comm]
  rw [e]
  have e2 : ((cur.toList.drop off).drop (j * s)).take s = (((cur.toList.drop off).take (l.length * s)).drop (j * s)).take s:=by
    rw [List.drop_take,List.take_take]
    congr 1; omega
  rw [e2,h,row_drop hc,List.drop_eq_getElem_cons hlt,he,List.flatMap_cons,List.take_left' (hc p)]
theorem vc_gen {P : Program} {ro : Option Nat} {n : Nat} {c : CC} {Q : QT} {ρ : Env} {ds : List Deferred} {w : World} (h : ∀ W,W = w→vc P ro n c Q ρ ds W) : vc P ro n c Q ρ ds w:=h w rfl
theorem rawK_gen {P : Program} {go : Value→World→Prop} {n : Nat} {o : Oper} {ρ : Env} {ds : List Deferred} {w : World} (h : ∀ W,W = w→RawK P go ρ ds n o W) : RawK P go ρ ds n o w:=h w rfl
def pairC (p : ByteArray × ByteArray) : List Value:=[.string p.1,.string p.2]
theorem new_c (l : List (ByteArray × ByteArray)) (v : Value) (w : World) (K : Value→World→Prop) (hv : (l = []∧∃ c,v = .slice none 0 c)∨RowAt w v 176 2 pairC l) (hl : l.length < 2 ^ 20) (hk : ∀ p ∈ l,p.1.size≤maxLen∧p.2.size≤maxLen)
    (h : ∀ w' sb mb,Mod (fun _=>False) w w'→w.heap.size≤sb→w.heap.size≤mb→IsShelf w' sb mb l.length (l.foldl (fun m p=>putM p.1.data.toList p.2.data.toList m) [])→K (ptr sb) w') :
    Ok Proofs.Tryz.prog 72 #[v] w K:=by
  have hv' : ∃ a,v = .slice a l.length (match v with | .slice _ _ c=>c | _=>0):=by
    rcases hv with ⟨rfl,c,rfl⟩ | ⟨g,off,cap,cur,rfl,_⟩ <;> exact ⟨_,rfl⟩
  obtain ⟨a,ha⟩:=hv'
  refine F72.enter (args:=[v]) (by simp) ?_
  unfold c72 r72
  simp only [ZB,insVc]
  refine rawK_makeMap rfl ?_
  simp only [ZB,insVc,lenLK,buildK,fillL,Value.cells,ne_eq,Nat.reduceLeDiff,reduceCtorEq,Zaf,Za,Zai,Zaj,Zak,Zbd,Zbe,Zbc,Zbb,Zal,Zam,Zbh,Zab,ha,Zaj]
  refine vc_loop (fun m ρ ds w'=>ds = []∧ρ 3 = ptr (w.heap.size + 1)∧ρ 9 = v∧ρ 10 = .int .i64 l.length∧Mod (fun _=>False) w w' ∧
    ∃ i : Nat,i + m = l.length∧ρ 11 = .int .i64 i∧IsShelf w' (w.heap.size + 1) w.heap.size i ((l.take i).foldl (fun m p=>putM p.1.data.toList p.2.data.toList m) [])) l.length ?_ ?_
  · refine ⟨rfl,by simp only [ZB,ne_eq,Nat.reduceEqDiff,Nat.reduceEqDiff],by simp only [ZB,ne_eq,Nat.reduceEqDiff]; rw [← ha],by simp only [ZB,ne_eq,Nat.reduceEqDiff],((Mod.refl _ _).alloc _).alloc _,0,by simp,by simp only [ZB]; rfl, ?_, ?_,by omega⟩
    · simp only [Zab,Zae,size_alloc,get_alloc,size_alloc,Zba,Zay]
    · exact (World.ownsMap_made w Proofs.Tryz.prog 9 _).alloc _
  · rintro k ρ ds w' ⟨rfl,h3,h9,h10,hm,i,him,h11,hsh⟩
    simp only [ZB,insVc,iopK,iopV,reduceCtorEq,h10,h11]
    by_cases hi : (i : Int) < l.length
    · obtain ⟨p,hp1⟩ : ∃ p,l[i]? = some p:=⟨_,List.getElem?_eq_getElem (by omega)⟩
      have hpk:=hk p (List.mem_of_getElem? hp1)
      rcases hv with ⟨rfl,c,rfl⟩ | ⟨g,off,cap,cur,rfl,hg,hcur⟩
      · simp at him; simp at hi; omega
      · obtain ⟨hsz,hex⟩:=row_at (s:=2) (cells:=pairC) (fun _=>rfl) hcur hp1 (by decide)
        simp only [ZB,insVc,loadNK,storeNK,setMany,iaddrK,isPlain,Value.cells,ne_eq,Nat.reduceEqDiff,Nat.reduceAdd,Nat.reduceLeDiff,Zai,Zaj,Zak,Zal,Zam,Zan,Zbj,Zau,Zaw,Zax,Zbk,hi,h9,h11,hm.keep hg id,hex,pairC]
        refine ⟨by omega,hsz, ?_⟩
        refine vc_gen ?_
        intro w1 hw1
        have hm1 : Mod (fun _=>False) w' w1:=by rw [hw1]; exact ((Mod.refl _ _).alloc _).set (.inl (Nat.le_refl _))
        have e1 : w1.heap[w'.heap.size]? = some (.cells #[.string p.1,.string p.2] 176 (0,0)):=by rw [hw1]; simp only [size_alloc,Zbf,Zb,size_alloc]
        clear hw1
        have hsh1:=hsh.keep hm1 id id
        have hwl:=hm.size
        have hne1 : w'.heap.size≠w.heap.size:=by have:=World.ownsMap.lt hsh.2.1; omega
        have hne2 : w'.heap.size≠w.heap.size + 1:=by have:=lt_of_get hsh.1; omega
        refine draw_d (fun W=>W.heap[w'.heap.size]? = some (.cells #[.string p.1,.string p.2] 176 (0,0))∧W.heap[w.heap.size + 1]? = some (.cells #[.map (some w.heap.size)] 174 (0,0))) (by kernel_rfl) (by kernel_rfl) (by kernel_rfl) (by kernel_rfl) ⟨e1,hsh1.1⟩ ?_
        simp only [ZB,insVc,nilK,nilM,iopK,iopV,faddrK,ne_eq,Nat.reduceEqDiff,reduceCtorEq,Zab,Zae,pureI,vcD_nil,vcD_cons,stepD_pure,stepD_load,stepD_step,kindI,loadI,h3]
        refine loadD1 (b:=w.heap.size + 1) (o:=0) (v:=.map (some w.heap.size)) rfl (fun W hW=>⟨_,_,_,hW.2,rfl⟩) ?_
        refine loadD1 (b:=w'.heap.size) (o:=0) (v:=.string p.1) rfl (fun W hW=>⟨_,_,_,hW.1,rfl⟩) ?_
        refine loadD1 (b:=w'.heap.size) (o:=1) (v:=.string p.2) rfl (fun W hW=>⟨_,_,_,hW.1,rfl⟩) ?_
        obtain ⟨w2,hr,hM2,hmod2⟩:=IsM.store (w:=w1.drew) hsh1.2.1 p.1 p.2 hpk.1 hpk.2 (by simp [maxLen]; omega)
        refine rawK_mapUpdate rfl rfl rfl rfl (by simpa only [vc_skip,vc_seq,vc_cond,vc_block,vc_exit,vc_ret,vc_ops,vcOps_nil,vcOps_cons,vcOps_gate,gateK_true,gateK_false,gate_true,gate_false,gate_undef,goL_apply,thenQ_normal,thenQ_ret,thenQ_exit,blockQ_normal,blockQ_ret,blockQ_same,blockQ_exit,condP_true,condP_false,upd_same,upd_other,updO_some,updO_none,ev_tmp,ev_const,ev_global,ev_func,endQ_ret,endQ_normal,endK,resK,resN,res1,resO_cells,resNO_cells,packed,initE_at,insVc,pickK,load1K,loadO_cells,loadV_some,loadV_none,loadNK,loadNO_cells,storeK,storeO_cells,storeNK,storeNO_cells,setMany,nilK,nilM,iopK,iopV,sopK,sopV,bopK,nilOf,pnilK,notK,convK,sameK,faddrK,fld1K,fldNK,iaddrK,iaddrAK,sidxK,extK,lenSK,lenLK,callvK,invK,buildK,fillL,buildSK,boundOf,slSK,slLK,slAK,isPlain,Value.cells,ne_eq,not_false_eq_true,not_true_eq_false,Nat.reduceEqDiff,Nat.reduceAdd,Nat.reduceLT,Nat.reduceLeDiff,reduceCtorEq,Bool.not_true,Bool.not_false,Option.map_some,Option.map_none,Option.getD_some,Option.getD_none,List.map_cons,List.map_nil,List.getElem?_cons_zero,List.getElem?_cons_succ,List.getElem?_nil,List.getElem?_toArray,List.size_toArray,List.length_cons,List.length_nil,List.zipIdx_cons,List.zipIdx_nil,List.foldl_cons,List.foldl_nil,List.setIfInBounds_toArray,List.set_cons_zero,List.set_cons_succ,List.append_eq,List.nil_append,List.cons_append,List.append_nil,List.toList_toArray,true_and,and_true,true_or,or_true,or_false,false_or,and_self,if_true,if_false,ite_true,ite_false,Bool.false_eq_true,Nat.zero_add,Nat.add_zero,decide_true,decide_false,Bool.and_true,Bool.and_false,Bool.true_and,Bool.false_and,Option.isNone_some,Option.isNone_none,Int.reduceLT,Int.reduceLE,Int.reduceToNat,Int.toNat_natCast,Int.reduceAdd,Int.reduceSub,Int.reduceMul,Int.reduceNeg,Int.reduceEq,Int.reduceNe,Int.reduceBEq,Int.reduceBNe,Nat.mul_one,List.extract_toArray,List.extract_eq_take_drop,List.drop_zero,List.drop_succ_cons,List.take_zero,List.take_succ_cons,Nat.sub_zero,Nat.add_sub_cancel,Nat.add_sub_cancel_left,vcS_nil,vcS_cons,vcS_gate,gateS_true,gateS_false,stepB_true,stepB_false,pureI,Nat.zero_mul,Nat.one_mul,Nat.reduceMul,Nat.reduceSub,List.all_toArray',List.all_cons,List.all_nil,size_set,size_alloc,size_drew,get_alloc_new,get_set_same,get_drew,Nat.lt_add_one,vcD_nil,vcD_cons,vcD_gate,gateD_true,gateD_false,stepD_pure,stepD_load,stepD_step,kindI,loadI] using hr) ?_
        have f1:=hmod2.keep (show w1.drew.heap[w'.heap.size]? = _ from e1) hne1
        have f2:=hmod2.keep (show w1.drew.heap[w.heap.size + 1]? = _ from hsh1.1) (by omega)
        refine ⟨⟨f1,f2⟩, ?_⟩
        simp only [true_and,h9,h10,h11]
        refine ⟨k - 1,by omega, ?_,i + 1,by omega,by rw [wrap_i64 _ (by omega)]; rfl,f2, ?_,by omega⟩
        · exact (hm.trans hm1).drew.then hmod2 (fun i hi hk=>by omega)
        · have e : l.take (i + 1) = l.take i ++ [p]:=by rw [List.take_add_one,hp1]; rfl
          rw [e,List.foldl_append]
          exact hM2
    · have hil : i = l.length:=by omega
      subst hil
      simp only [ZB,endK,resK,packed,insVc,ne_eq,Nat.reduceEqDiff,Zaa,hi,h3]
      rw [List.take_length] at hsh
      exact h w' _ _ hm (by omega) (Nat.le_refl _) hsh
end Go.Oct
namespace Go.Oct
open Go Go.Vc Go.VrA
set_option maxRecDepth 100000
def plainI (x : Int) : Bool:=(decide (x ≥ 97) && decide (x≤122)) || (decide (x ≥ 65) && decide (x≤90)) || (decide (x ≥ 48) && decide (x≤57)) || x == 45 || x == 95
theorem plain_c (x : Int) (w : World) (K : Value→World→Prop) (h : K (.bool (plainI x)) w) : Ok Proofs.Tryz.prog 219 #[.int .i32 x] w K:=by
  refine F219.enter (args:=[.int .i32 x]) (by simp) ?_
  unfold c219 r219
  by_cases a1 : x ≥ 97
  · have n2 : ¬ x≤90:=by omega
    have n3 : ¬ x≤57:=by omega
    have n4 : (x == 45) = false:=by rw [beq_eq_false_iff_ne]; omega
    have m1 : x ≥ 65:=by omega
    have m2 : x ≥ 48:=by omega
    have n5 : (x == 95) = false:=by rw [beq_eq_false_iff_ne]; omega
    by_cases a2 : x≤122
    · simp only [plainI,a1,a2,decide_true,Zbx,Bool.and_self] at h
      simp only [ZB,endK,resK,packed,insVc,pickK,iopK,iopV,ne_eq,Nat.reduceEqDiff,reduceCtorEq,Zaf,Za,Zaa,Zab,a1,a2]; exact h
    · simp only [plainI,a1,a2,n2,n3,n4,n5,m1,m2,decide_true,decide_false,Bool.and_false,Bool.or_self] at h
      simp only [ZB,endK,resK,packed,insVc,pickK,iopK,iopV,ne_eq,Nat.reduceEqDiff,reduceCtorEq,Zaf,Za,Zaa,Zab,Zae,a1,a2,n2,n3,n4,n5,m1,m2]; exact h
  · by_cases b1 : x ≥ 65
    · have m2 : x ≥ 48:=by omega
      have n3 : ¬ x≤57:=by omega
      have n4 : (x == 45) = false:=by rw [beq_eq_false_iff_ne]; omega
      by_cases b2 : x≤90
      · simp only [plainI,a1,b1,b2,decide_true,decide_false,Bool.false_and,Zbz,Zbx,Bool.and_self] at h
        simp only [ZB,endK,resK,packed,insVc,pickK,iopK,iopV,ne_eq,Nat.reduceEqDiff,reduceCtorEq,Zaf,Za,Zaa,Zab,Zae,a1,b1,b2]; exact h
      · simp only [plainI,a1,b1,b2,n3,n4,m2,decide_true,decide_false,Bool.false_and,Bool.and_false,Zbz,Bool.or_self] at h
        simp only [ZB,endK,resK,packed,insVc,pickK,iopK,iopV,ne_eq,Nat.reduceEqDiff,reduceCtorEq,Zaf,Za,Zaa,Zab,Zae,a1,b1,b2,n3,n4,m2]; exact h
    · have n5 : (x == 95) = false:=by rw [beq_eq_false_iff_ne]; omega
      by_cases c1 : x ≥ 48
      · have n4 : (x == 45) = false:=by rw [beq_eq_false_iff_ne]; omega
        by_cases c2 : x≤57
        · simp only [plainI,a1,b1,c1,c2,decide_true,decide_false,Bool.false_and,Zbz,Zbx,Bool.and_self] at h
          simp only [ZB,endK,resK,packed,insVc,pickK,iopK,iopV,ne_eq,Nat.reduceEqDiff,reduceCtorEq,Zaf,Za,Zaa,Zab,Zae,a1,b1,c1,c2]; exact h
        · simp only [plainI,a1,b1,c1,c2,n4,n5,decide_true,decide_false,Bool.false_and,Bool.and_false,Bool.or_self] at h
          simp only [ZB,endK,resK,packed,insVc,pickK,iopK,iopV,ne_eq,Nat.reduceEqDiff,reduceCtorEq,Zaf,Za,Zaa,Zab,Zae,a1,b1,c1,c2,n4,n5]; exact h
      · simp only [plainI,a1,b1,c1,n5,decide_false,Bool.false_and,Zbz,Bool.or_false] at h
        simp only [ZB,insVc,pickK,iopK,iopV,ne_eq,Nat.reduceEqDiff,reduceCtorEq,Zaf,Za,Zae,a1,b1,c1]
        by_cases d : (x == 45) = true
        · simp only [d] at h
          simp only [ZB,endK,resK,packed,insVc,pickK,ne_eq,Nat.reduceEqDiff,Zaa,Zab,d]; exact h
        · have d' : (x == 45) = false:=by simpa using d
          simp only [d'] at h
          simp only [ZB,endK,resK,packed,insVc,pickK,iopK,iopV,ne_eq,Nat.reduceEqDiff,reduceCtorEq,Zaf,Za,Zaa,Zae,d',n5]; exact h
theorem notPlain_c (x : Int) (w : World) (K : Value→World→Prop) (h : K (.bool !(plainI x)) w) : Ok Proofs.Tryz.prog 218 #[.int .i32 x] w K:=by
  refine F218.enter (args:=[.int .i32 x]) (by simp) ?_
  unfold c218 r218
  simp only [ZB,insVc,ne_eq,reduceCtorEq,Zaf,Zad,Zac,Za]
  refine plain_c x w _ ?_
  simp only [ZB,endK,resK,packed,insVc,notK,Zaa]
  exact h
def nameB (s : ByteArray) : Bool:=!(s.toList == (⟨#[]⟩ : ByteArray).toList) && decide (s.size≤32) && !decide (0≤Lib.idxFunc (fun x => !(plainI x)) true s)
theorem containsFunc_c (s : ByteArray) (w : World) (K : Value→World→Prop) (h : ∀ w',Mod (fun _=>False) w w'→K (.bool (decide (0≤Lib.idxFunc (fun x => !(plainI x)) true s))) w') :
    Ok Proofs.Tryz.prog 217 #[.string s,.func (.func 218) #[] #[]] w K:=by
  refine ok_of_calls (by kernel_rfl) (Proofs.Tryz.strings_ContainsFunc 218 #[] (Go.Proofs.enters_of Proofs.Tryz.func218 (by kernel_rfl) rfl) (fun x => !(plainI x)) s w ?_) ?_
  · intro W x _
    have hk : Ok Proofs.Tryz.prog 218 #[.int .i32 (x : Int)] W (fun v w'=>v = .bool (!(plainI x))∧w' = W):=notPlain_c x W _ ⟨rfl,rfl⟩
    refine (callsIn_wide.1 hk.2).mono ?_
    rintro e w' ⟨v,rfl,rfl,rfl⟩
    exact ⟨rfl,0,rfl⟩
  · rintro e w' ⟨rfl,hlo⟩
    exact ⟨_,rfl,h w' (Mod.of_below hlo)⟩
theorem name_c (s : ByteArray) (w : World) (K : Value→World→Prop) (h : ∀ w',Mod (fun _=>False) w w'→K (.bool (nameB s)) w') : Ok Proofs.Tryz.prog 161 #[.string s] w K:=by
  refine F161.enter (args:=[.string s]) (by simp) ?_
  unfold c161 r161
  simp only [ZB,insVc,sopK,sopV,ne_eq,reduceCtorEq,Zaf,Za]
  refine gateK_split ?_ ?_
  · intro h1
    simp only [ZB,insVc,pickK,iopK,iopV,lenSK,ne_eq,Nat.reduceEqDiff,reduceCtorEq,Zaf,Za,Zab,h1]
    by_cases h2 : (s.size : Int)≤32
    · simp only [ZB,insVc,ne_eq,Nat.reduceEqDiff,reduceCtorEq,Zaf,Zad,Zac,Za,h2]
      refine containsFunc_c s w _ ?_
      intro w1 hm
      simp only [ZB,endK,resK,packed,insVc,pickK,notK,ne_eq,Nat.reduceEqDiff,Zaa,Zab]
      have e : nameB s = !decide (0≤Lib.idxFunc (fun x => !(plainI x)) true s):=by
        have e1 : (!(s.toList == (⟨#[]⟩ : ByteArray).toList)) = true:=h1
        have e2 : decide (s.size≤32) = true:=by simpa using (by omega : s.size≤32)
        simp only [nameB,e1,e2,Bool.true_and]
      rw [e] at h
      exact h w1 hm
    · simp only [ZB,endK,resK,packed,insVc,pickK,ne_eq,Nat.reduceEqDiff,Zaa,Zae,h2]
      have e : nameB s = false:=by
        have e2 : decide (s.size≤32) = false:=by simpa using (by omega : 32 < s.size)
        simp only [nameB,e2,Bool.and_false,Bool.false_and]
      rw [e] at h
      exact h w (Mod.refl _ _)
  · intro h1
    simp only [ZB,endK,resK,packed,insVc,pickK,ne_eq,Nat.reduceEqDiff,Zaa,Zae,h1]
    have e : nameB s = false:=by
      have e1 : (!(s.toList == (⟨#[]⟩ : ByteArray).toList)) = false:=h1
      simp only [nameB,e1,Bool.false_and]
    rw [e] at h
    exact h w (Mod.refl _ _)
end Go.Oct
namespace Go.Oct
open Go Go.Vc
theorem before_less : ∀ a b : List UInt8,bytesBefore a b = Op.bytesLess a b
  | [],[]=>rfl
  | [],_ :: _=>rfl
  | _ :: _,[]=>rfl
  | a :: r,b :: s=>by simp only [bytesBefore,Op.bytesLess,before_less r s]
def SortedM (m : M) : Prop:=m.Pairwise fun p q=>p.1 < q.1
def inR (a b : List UInt8) (p : List UInt8 × List UInt8) : Bool:=!(Op.bytesLess p.1 a || (!(b == []) && !(Op.bytesLess p.1 b)))
def rngM (a b : List UInt8) (m : M) : M:=m.filter (inR a b)
theorem sort_keys {m : M} (h : SortedM m) {ss : List (List UInt8)} (hp : ss.Perm (m.map (·.1))) : ss.mergeSort (fun x y=>decide (x≤y)) = m.map (·.1):=by
  have h1:=mergeSort_of_perm hp
  have h2 : (m.map (·.1)).Pairwise (fun a b=>leB a b = true):=by
    rw [List.pairwise_map]
    exact h.imp fun hab=>by simp only [leB,decide_eq_true_eq]; exact List.le_of_lt hab
  have h3:=List.mergeSort_of_pairwise h2
  exact h1.trans h3
theorem look_mem : ∀ {m : M},SortedM m→∀ {p},p ∈ m→lookM p.1 m = some p.2:=by
  intro m
  induction m with
  | nil=>intro _ p hp; cases hp
  | cons y r ih =>
    intro h p hp
    have h':=List.pairwise_cons.1 h
    unfold lookM
    rcases List.mem_cons.1 hp with rfl | hp
    · simp
    · have hlt:=h'.1 p hp
      have hne : ¬ y.1 = p.1:=fun e=>by rw [e] at hlt; exact List.lt_irrefl _ hlt
      rw [if_neg (by simpa using hne)]
      exact ih h'.2 hp
theorem sorted_of_canon {m : M} (h : Maps.Canon (DM m)) : SortedM m:=by
  obtain ⟨es,he,hp,_⟩:=h
  have e : encM m = es:=by injection he
  subst e
  unfold encM at hp
  rw [List.pairwise_map] at hp
  refine hp.imp fun {p q} hpq => ?_
  have : bytesBefore p.1 q.1 = true:=hpq
  rw [before_less,Go.Proofs.bytesLess_eq] at this
  exact of_decide_eq_true this
end Go.Oct
namespace Go.Vc
open Go
variable {P : Program}
theorem callK_mono {K K' : Value→World→Prop} {f : FuncId} {args : List Value} {w : World} (h : CallK P K f args w) (hk : ∀ v w',K v w'→K' v w') : CallK P K' f args w:=Ok.mono h hk
theorem callvK_mono {K K' : Value→World→Prop} {w : World} {args : List Value} {y : Value} (h : callvK P K w args y) (hk : ∀ v w',K v w'→K' v w') : callvK P K' w args y:=by
  cases y with
  | func f first cap =>
    cases f with
    | func f=>exact callK_mono h hk
    | yield l=>exact upon_mono hk h
    | _=>exact False.elim h
  | _=>exact False.elim h
def Kept (lo : Nat) (w u : World) : Prop:=w.heap.size≤u.heap.size∧∀ k,lo≤k→k < w.heap.size→u.heap[k]? = w.heap[k]?
theorem Kept.refl (lo : Nat) (w : World) : Kept lo w w:=⟨Nat.le_refl _,fun _ _ _=>rfl⟩
theorem Kept.keep {lo : Nat} {w a b : World} (h : Kept lo w a) {S : Nat→Prop} (hm : Mod S a b) (hS : ∀ k,lo≤k→k < w.heap.size→¬ S k) : Kept lo w b:=by
  have h1:=h.1
  exact ⟨Nat.le_trans h.1 hm.size,fun k h2 h3=>(hm.get k (by omega) (hS k h2 h3)).trans (h.2 k h2 h3)⟩
theorem Kept.at {lo : Nat} {w u : World} (h : Kept lo w u) {k : Nat} {o : Obj} (hk : w.heap[k]? = some o) (hlo : lo≤k) : u.heap[k]? = some o:=(h.2 k hlo (lt_of_get hk)).trans hk
theorem Kept.trans {lo : Nat} {a b c : World} (h : Kept lo a b) (k : Kept lo b c) : Kept lo a c:=by
  have h1:=h.1
  exact ⟨Nat.le_trans h.1 k.1,fun i h2 h3=>(k.2 i h2 (by omega)).trans (h.2 i h2 h3)⟩
end Go.Vc
