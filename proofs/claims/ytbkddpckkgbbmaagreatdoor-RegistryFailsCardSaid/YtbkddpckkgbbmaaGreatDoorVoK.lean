import Derived.Test.YtbkddpckkgbbmaaGreatDoorVoH
import Derived.Test.YtbkddpckkgbbmaaGreatDoorVsA
import Derived.WideMake
import Derived.Sort.Walk0
import Derived.Sort.KeysCollected
import Derived.Maps.Ext
set_option linter.unusedSimpArgs false
set_option linter.unusedVariables false
set_option linter.unusedSectionVars false
set_option linter.unnecessarySimpa false
namespace Go.Oct
open Go Go.Vc Go.VrA
set_option maxRecDepth 100000
section
variable {P : Program} {n : Nat} {go : Value→World→Prop} {ρ : Env} {ds : List Deferred} {w : World} {o : Oper}
theorem rawK_lookup {x i : Operand} {t : TypeId} {ok : Bool} {v : Value} {w' : World} (ho : o.op = .lookup t x i ok) (hx : inB n x = true) (hi : inB n i = true)
    (hr : (Instr.lookup t (ev ρ x) (ev ρ i) ok).run P w = .ok v w') (h : go v w') : RawK P go ρ ds n o w:=by
  unfold RawK
  simp only [execOp,ho,Sem.run_bind,mkA_eval n ρ ds x hx,mkA_eval n ρ ds i hi,hr,Result.andThen,pure,Sem.run]
  exact h
theorem rawK_mapUpdate {m k x : Operand} {t : TypeId} {w' : World} (ho : o.op = .mapUpdate t m k x) (hm : inB n m = true) (hk : inB n k = true) (hx : inB n x = true)
    (hr : (Instr.mapUpdate t (ev ρ m) (ev ρ k) (ev ρ x)).run P w = .ok () w') (h : go undef w') : RawK P go ρ ds n o w:=by
  unfold RawK
  simp only [execOp,ho,Sem.run_bind,mkA_eval n ρ ds m hm,mkA_eval n ρ ds k hk,mkA_eval n ρ ds x hx,hr,Result.andThen,pure,Sem.run]
  exact h
theorem rawK_makeMap {t : TypeId} (ho : o.op = .makeMap t none) (h : go (.map (some w.heap.size)) (w.alloc (.map #[] 0))) : RawK P go ρ ds n o w:=by
  unfold RawK
  simp only [execOp,ho,Sem.run_bind,Zbn,run_makeMap_plain,Result.andThen,pure,Sem.run]
  exact h
end
def IsM (w : World) (mb n : Nat) (m : M) : Prop:=w.ownsMap Proofs.Tryz.prog 9 (plainElem Proofs.Tryz.prog 9) mb n (DM m)
def IsShelf (w : World) (sb mb n : Nat) (m : M) : Prop:=w.heap[sb]? = some (.cells #[.map (some mb)] 123 (0,0))∧IsM w mb n m∧sb≠mb
theorem tStr : (Proofs.Tryz.prog).underlying 9 = some .string:=by kernel_rfl
theorem tMap : (Proofs.Tryz.prog).underlying 121 = some (.map 9 9):=by kernel_rfl
theorem zStr (w : World) : (zeroValue 9).run Proofs.Tryz.prog w = .ok (.string ⟨#[]⟩) w:=by kernel_rfl
theorem IsM.keep {w w' : World} {S : Nat→Prop} {mb n : Nat} {m : M} (h : IsM w mb n m) (hm : Mod S w w') (hs : ¬ S mb) : IsM w' mb n m:=by
  have hlt:=World.ownsMap.lt h
  obtain ⟨es,clock,hb,F,hsz,hD⟩:=h
  exact ⟨es,clock,hm.keep hb hs,F,hsz,hD⟩
theorem IsShelf.keep {w w' : World} {S : Nat→Prop} {sb mb n : Nat} {m : M} (h : IsShelf w sb mb n m) (hm : Mod S w w') (hs : ¬ S sb) (hs' : ¬ S mb) : IsShelf w' sb mb n m :=
  ⟨hm.keep h.1 hs,h.2.1.keep hm hs',h.2.2⟩
theorem IsM.look {w : World} {mb n : Nat} {m : M} (h : IsM w mb n m) (k : ByteArray) (hk : k.size≤maxLen) (ok : Bool) :
    (Instr.lookup 121 (.map (some mb)) (.string k) ok).run Proofs.Tryz.prog w = .ok (if ok then .tuple #[.string ⟨((lookM k.data.toList m).getD []).toArray⟩,.bool (lookM k.data.toList m).isSome] else .string ⟨((lookM k.data.toList m).getD []).toArray⟩) w:=by
  have inv : ∀ v ps,plainElem (H:=Unit) Proofs.Tryz.prog 9 v = some ((DM m).atKey (.string k.data.toList) (.lit (.string [])),ps)→v = .string ⟨((lookM k.data.toList m).getD []).toArray⟩:=by
    intro v ps hv
    rw [DM_at] at hv
    unfold plainElem at hv
    rw [tStr] at hv
    cases v <;> simp at hv
    rename_i s
    obtain ⟨_,h1,_⟩:=hv
    rw [← h1]
  cases ok with
  | true =>
    obtain ⟨v,ps,hr,hv⟩:=World.ownsMap.look_ok h (Maps.string_keyed tStr) tMap (zStr w) (plainElem_string tStr (by simp [ByteArray.size,maxLen])) (WideMaps.keyOf_string_mk tStr hk)
    rw [hr,inv v ps hv,DM_has]; rfl
  | false =>
    obtain ⟨v,ps,hr,hv⟩:=World.ownsMap.lookup h (Maps.string_keyed tStr) tMap (zStr w) (plainElem_string tStr (by simp [ByteArray.size,maxLen])) (WideMaps.keyOf_string_mk tStr hk)
    rw [hr,inv v ps hv]; rfl
theorem IsM.store {w : World} {mb n : Nat} {m : M} (h : IsM w mb n m) (k v : ByteArray) (hk : k.size≤maxLen) (hv : v.size≤maxLen) (hn : n < maxLen) :
    ∃ w',(Instr.mapUpdate 121 (.map (some mb)) (.string k) (.string v)).run Proofs.Tryz.prog w = .ok () w'∧IsM w' mb (n + 1) (putM k.data.toList v.data.toList m)∧Mod (fun i=>i = mb) w w':=by
  obtain ⟨w',hr,ho,hg⟩:=World.ownsMap.update h (Maps.string_keyed tStr) tMap hn (WideMaps.keyOf_string_mk tStr hk) (plainElem_string (H:=Unit) tStr hv)
  refine ⟨w',hr, ?_,⟨hg.os,hg.tape,hg.output,hg.size,fun i hi hs=>hg.block i hi (fun e=>hs (Option.some.inj e))⟩⟩
  unfold IsM
  rw [← DM_put]
  exact ho
theorem sget_c (sb mb n : Nat) (m : M) (k : ByteArray) (w : World) (K : Value→World→Prop) (hs : IsShelf w sb mb n m) (hk : k.size≤maxLen)
    (h : K (.tuple #[.string ⟨((lookM k.data.toList m).getD []).toArray⟩,.bool (lookM k.data.toList m).isSome,.int .i64 0]) w) :
    Ok Proofs.Tryz.prog 286 #[ptr sb,.string k] w K:=by
  refine F286.enter (args:=[ptr sb,.string k]) (by simp) ?_
  unfold c286 r286
  simp only [ZB,insVc,load1K,nilK,faddrK,ne_eq,Nat.reduceEqDiff,reduceCtorEq,Zab,Za,Zaf,Zah,hs.1]
  refine rawK_lookup rfl rfl rfl (by simpa only [vc_skip,vc_seq,vc_cond,vc_block,vc_exit,vc_ret,vc_ops,vcOps_nil,vcOps_cons,vcOps_gate,gateK_true,gateK_false,gate_true,gate_false,gate_undef,goL_apply,thenQ_normal,thenQ_ret,thenQ_exit,blockQ_normal,blockQ_ret,blockQ_same,blockQ_exit,condP_true,condP_false,upd_same,upd_other,updO_some,updO_none,ev_tmp,ev_const,ev_global,ev_func,endQ_ret,endQ_normal,endK,resK,resN,res1,resO_cells,resNO_cells,packed,initE_at,insVc,pickK,load1K,loadO_cells,loadV_some,loadV_none,loadNK,loadNO_cells,storeK,storeO_cells,storeNK,storeNO_cells,setMany,nilK,nilM,iopK,iopV,sopK,sopV,bopK,nilOf,pnilK,notK,convK,sameK,faddrK,fld1K,fldNK,iaddrK,iaddrAK,sidxK,extK,lenSK,lenLK,callvK,invK,buildK,fillL,buildSK,boundOf,slSK,slLK,slAK,isPlain,Value.cells,ne_eq,not_false_eq_true,not_true_eq_false,Nat.reduceEqDiff,Nat.reduceAdd,Nat.reduceLT,Nat.reduceLeDiff,reduceCtorEq,Bool.not_true,Bool.not_false,Option.map_some,Option.map_none,Option.getD_some,Option.getD_none,List.map_cons,List.map_nil,List.getElem?_cons_zero,List.getElem?_cons_succ,List.getElem?_nil,List.getElem?_toArray,List.size_toArray,List.length_cons,List.length_nil,List.zipIdx_cons,List.zipIdx_nil,List.foldl_cons,List.foldl_nil,List.setIfInBounds_toArray,List.set_cons_zero,List.set_cons_succ,List.append_eq,List.nil_append,List.cons_append,List.append_nil,List.toList_toArray,true_and,and_true,true_or,or_true,or_false,false_or,and_self,if_true,if_false,ite_true,ite_false,Bool.false_eq_true,Nat.zero_add,Nat.add_zero,decide_true,decide_false,Bool.and_true,Bool.and_false,Bool.true_and,Bool.false_and,Option.isNone_some,Option.isNone_none,Int.reduceLT,Int.reduceLE,Int.reduceToNat,Int.toNat_natCast,Int.reduceAdd,Int.reduceSub,Int.reduceMul,Int.reduceNeg,Int.reduceEq,Int.reduceNe,Int.reduceBEq,Int.reduceBNe,Nat.mul_one,List.extract_toArray,List.extract_eq_take_drop,List.drop_zero,List.drop_succ_cons,List.take_zero,List.take_succ_cons,Nat.sub_zero,Nat.add_sub_cancel,Nat.add_sub_cancel_left,vcS_nil,vcS_cons,vcS_gate,gateS_true,gateS_false,stepB_true,stepB_false,pureI,Nat.zero_mul,Nat.one_mul,Nat.reduceMul,Nat.reduceSub,List.all_toArray',List.all_cons,List.all_nil,size_set,size_alloc,size_drew,get_alloc_new,get_set_same,get_drew,Nat.lt_add_one,vcD_nil,vcD_cons,vcD_gate,gateD_true,gateD_false,stepD_pure,stepD_load,stepD_step,kindI,loadI] using hs.2.1.look k hk true) ?_
  simp only [ZB,endK,resK,packed,insVc,extK,ne_eq,Nat.reduceEqDiff,Za,Zaf,Zah,Zaa,Zap]
  exact h
theorem sput_c (sb mb n : Nat) (m : M) (k v : ByteArray) (w : World) (K : Value→World→Prop) (hs : IsShelf w sb mb n m) (hn : n < maxLen)
    (h1 : k.size > 255∨v.size > 65536→K (.int .i64 5) w)
    (h2 : ¬ (k.size > 255∨v.size > 65536)→∀ w',Mod (fun i=>i = mb) w w'→IsShelf w' sb mb (n + 1) (putM k.data.toList v.data.toList m)→K (.int .i64 0) w') :
    Ok Proofs.Tryz.prog 25 #[ptr sb,.string k,.string v] w K:=by
  refine F25.enter (args:=[ptr sb,.string k,.string v]) (by simp) ?_
  unfold c25 r25
  simp only [ZB,insVc,iopK,iopV,lenSK,ne_eq,Nat.reduceEqDiff,reduceCtorEq,Zab,Za,Zaf]
  have fin : ¬ (k.size > 255∨v.size > 65536)→∃ w',(Instr.mapUpdate 121 (.map (some mb)) (.string k) (.string v)).run Proofs.Tryz.prog w = .ok () w'∧K (.int .i64 0) w':=by
    intro hc
    obtain ⟨w',hr,hm,hmod⟩:=hs.2.1.store k v (by simp [maxLen]; omega) (by simp [maxLen]; omega) hn
    exact ⟨w',hr,h2 hc w' hmod ⟨hmod.keep hs.1 hs.2.2,hm,hs.2.2⟩⟩
  by_cases c1 : (k.size : Int) > 255
  · simp only [ZB,endK,resK,packed,insVc,pickK,ne_eq,Nat.reduceEqDiff,Zaa,Zac,c1]
    exact h1 (.inl (by omega))
  · simp only [ZB,insVc,pickK,iopK,iopV,lenSK,ne_eq,Nat.reduceEqDiff,reduceCtorEq,Zab,Za,Zaf,Zag,c1]
    by_cases c2 : (v.size : Int) > 65536
    · simp only [ZB,endK,resK,packed,insVc,Zaa,c2]
      exact h1 (.inr (by omega))
    · simp only [ZB,insVc,load1K,nilK,faddrK,ne_eq,Nat.reduceEqDiff,reduceCtorEq,Zab,Za,Zaf,Zah,c2,hs.1]
      obtain ⟨w',hr,hk⟩:=fin (by omega)
      refine rawK_mapUpdate rfl rfl rfl rfl (by simpa only [vc_skip,vc_seq,vc_cond,vc_block,vc_exit,vc_ret,vc_ops,vcOps_nil,vcOps_cons,vcOps_gate,gateK_true,gateK_false,gate_true,gate_false,gate_undef,goL_apply,thenQ_normal,thenQ_ret,thenQ_exit,blockQ_normal,blockQ_ret,blockQ_same,blockQ_exit,condP_true,condP_false,upd_same,upd_other,updO_some,updO_none,ev_tmp,ev_const,ev_global,ev_func,endQ_ret,endQ_normal,endK,resK,resN,res1,resO_cells,resNO_cells,packed,initE_at,insVc,pickK,load1K,loadO_cells,loadV_some,loadV_none,loadNK,loadNO_cells,storeK,storeO_cells,storeNK,storeNO_cells,setMany,nilK,nilM,iopK,iopV,sopK,sopV,bopK,nilOf,pnilK,notK,convK,sameK,faddrK,fld1K,fldNK,iaddrK,iaddrAK,sidxK,extK,lenSK,lenLK,callvK,invK,buildK,fillL,buildSK,boundOf,slSK,slLK,slAK,isPlain,Value.cells,ne_eq,not_false_eq_true,not_true_eq_false,Nat.reduceEqDiff,Nat.reduceAdd,Nat.reduceLT,Nat.reduceLeDiff,reduceCtorEq,Bool.not_true,Bool.not_false,Option.map_some,Option.map_none,Option.getD_some,Option.getD_none,List.map_cons,List.map_nil,List.getElem?_cons_zero,List.getElem?_cons_succ,List.getElem?_nil,List.getElem?_toArray,List.size_toArray,List.length_cons,List.length_nil,List.zipIdx_cons,List.zipIdx_nil,List.foldl_cons,List.foldl_nil,List.setIfInBounds_toArray,List.set_cons_zero,List.set_cons_succ,List.append_eq,List.nil_append,List.cons_append,List.append_nil,List.toList_toArray,true_and,and_true,true_or,or_true,or_false,false_or,and_self,if_true,if_false,ite_true,ite_false,Bool.false_eq_true,Nat.zero_add,Nat.add_zero,decide_true,decide_false,Bool.and_true,Bool.and_false,Bool.true_and,Bool.false_and,Option.isNone_some,Option.isNone_none,Int.reduceLT,Int.reduceLE,Int.reduceToNat,Int.toNat_natCast,Int.reduceAdd,Int.reduceSub,Int.reduceMul,Int.reduceNeg,Int.reduceEq,Int.reduceNe,Int.reduceBEq,Int.reduceBNe,Nat.mul_one,List.extract_toArray,List.extract_eq_take_drop,List.drop_zero,List.drop_succ_cons,List.take_zero,List.take_succ_cons,Nat.sub_zero,Nat.add_sub_cancel,Nat.add_sub_cancel_left,vcS_nil,vcS_cons,vcS_gate,gateS_true,gateS_false,stepB_true,stepB_false,pureI,Nat.zero_mul,Nat.one_mul,Nat.reduceMul,Nat.reduceSub,List.all_toArray',List.all_cons,List.all_nil,size_set,size_alloc,size_drew,get_alloc_new,get_set_same,get_drew,Nat.lt_add_one,vcD_nil,vcD_cons,vcD_gate,gateD_true,gateD_false,stepD_pure,stepD_load,stepD_step,kindI,loadI] using hr) ?_
      simp only [ZB,endK,resK,packed,insVc,Zaa]
      exact hk
end Go.Oct
namespace Go.Oct
open Go Go.Vc Go.VrA
set_option maxRecDepth 100000
def RowAt {α : Type} (w : World) (v : Value) (e : TypeId) (s : Nat) (cells : α→List Value) (l : List α) : Prop :=
  ∃ g off cap cur,v = .slice (some ⟨g,off,none⟩) l.length cap∧w.heap[g]? = some (.cells cur e (0,0))∧(cur.toList.drop off).take (l.length * s) = l.flatMap cells
theorem row_len {α : Type} {s : Nat} {cells : α→List Value} (hc : ∀ a,(cells a).length = s) (l : List α) : (l.flatMap cells).length = l.length * s:=by
  induction l with
  | nil=>simp
  | cons p l ih=>rw [List.flatMap_cons,List.length_append,hc,ih,List.length_cons,Nat.add_mul]; omega
theorem row_drop {α : Type} {s : Nat} {cells : α→List Value} (hc : ∀ a,(cells a).length = s) : ∀ (l : List α) (j : Nat),(l.flatMap cells).drop (j * s) = (l.drop j).flatMap cells:=by
  intro l
  induction l with
  | nil=>intro j; simp
  | cons p l ih =>
    intro j
    cases j with
    | zero=>simp
    | succ j =>
      have : (j + 1) * s = s + j * s:=by rw [Nat.add_mul]; omega
      rw [this,← List.drop_drop,List.flatMap_cons,List.drop_left' (hc p),ih,List.drop_succ_cons]
theorem row_at {α : Type} {s off : Nat} {cells : α→List Value} (hc : ∀ a,(cells a).length = s) {cur : Array Value} {l : List α} (h : (cur.toList.drop off).take (l.length * s) = l.flatMap cells) {j : Nat} {p : α} (hj : l[j]? = some p) (h0 : 0 < s) :
    off + j * s + s≤cur.size∧cur.extract (off + j * s) (off + j * s + s) = (cells p).toArray:=by
  obtain ⟨hlt,he⟩:=List.getElem?_eq_some_iff.1 hj
  have hlen:=row_len hc l
  have hs : cur.toList.length = cur.size:=Array.length_toList
  have hle : l.length * s≤cur.size - off:=by
    have:=congrArg List.length h
    rw [hlen,List.length_take,List.length_drop] at this
    omega
  have hjs : j * s + s≤l.length * s:=by rw [← Nat.succ_mul]; exact Nat.mul_le_mul_right _ hlt
  refine ⟨by omega, ?_⟩
  apply Array.ext'
  have e : (cur.extract (off + j * s) (off + j * s + s)).toList = ((cur.toList.drop off).drop (j * s)).take s:=by
    rw [List.drop_drop]
    simp [List.take_drop,Nat.add_comm]
  rw [e]
  have e2 : ((cur.toList.drop off).drop (j * s)).take s = (((cur.toList.drop off).take (l.length * s)).drop (j * s)).take s:=by
    rw [List.drop_take,List.take_take]
    congr 1; omega
  rw [e2,h,row_drop hc,List.drop_eq_getElem_cons hlt,he,List.flatMap_cons,List.take_left' (hc p)]
theorem vc_gen {P : Program} {ro : Option Nat} {n : Nat} {c : CC} {Q : QT} {ρ : Env} {ds : List Deferred} {w : World} (h : ∀ W,W = w→vc P ro n c Q ρ ds W) : vc P ro n c Q ρ ds w:=h w rfl
def pairC (p : ByteArray × ByteArray) : List Value:=[.string p.1,.string p.2]
theorem new_c (l : List (ByteArray × ByteArray)) (v : Value) (w : World) (K : Value→World→Prop) (hv : (l = []∧∃ c,v = .slice none 0 c)∨RowAt w v 29 2 pairC l) (hl : l.length < 2 ^ 20) (hk : ∀ p ∈ l,p.1.size≤maxLen∧p.2.size≤maxLen)
    (h : ∀ w' sb mb,Mod (fun _=>False) w w'→w.heap.size≤sb→w.heap.size≤mb→IsShelf w' sb mb l.length (l.foldl (fun m p=>putM p.1.data.toList p.2.data.toList m) [])→K (ptr sb) w') :
    Ok Proofs.Tryz.prog 12 #[v] w K:=by
  have hv' : ∃ a,v = .slice a l.length (match v with | .slice _ _ c=>c | _=>0):=by
    rcases hv with ⟨rfl,c,rfl⟩ | ⟨g,off,cap,cur,rfl,_⟩ <;> exact ⟨_,rfl⟩
  obtain ⟨a,ha⟩:=hv'
  refine F12.enter (args:=[v]) (by simp) ?_
  unfold c12 r12
  simp only [ZB,insVc]
  refine rawK_makeMap rfl ?_
  simp only [ZB,insVc,lenLK,buildK,fillL,Value.cells,ne_eq,Nat.reduceLeDiff,reduceCtorEq,Zab,Za,Zak,Zai,Zaj,Zbc,Zbd,Zba,Zbb,Zal,Zam,Zbf,Zac,ha,Zai]
  refine vc_loop (fun m ρ ds w'=>ds = []∧ρ 3 = ptr (w.heap.size + 1)∧ρ 9 = v∧ρ 10 = .int .i64 l.length∧Mod (fun _=>False) w w' ∧
    ∃ i : Nat,i + m = l.length∧ρ 11 = .int .i64 i∧IsShelf w' (w.heap.size + 1) w.heap.size i ((l.take i).foldl (fun m p=>putM p.1.data.toList p.2.data.toList m) [])) l.length ?_ ?_
  · refine ⟨rfl,by simp only [ZB,ne_eq,Nat.reduceEqDiff,Nat.reduceEqDiff],by simp only [ZB,ne_eq,Nat.reduceEqDiff]; rw [← ha],by simp only [ZB,ne_eq,Nat.reduceEqDiff],((Mod.refl _ _).alloc _).alloc _,0,by simp,by simp only [ZB]; rfl, ?_, ?_,by omega⟩
    · simp only [Zac,Zag,size_alloc,get_alloc,size_alloc,Zbj,Zbi]
    · exact (World.ownsMap_made w Proofs.Tryz.prog 9 _).alloc _
  · rintro k ρ ds w' ⟨rfl,h3,h9,h10,hm,i,him,h11,hsh⟩
    simp only [ZB,insVc,iopK,iopV,reduceCtorEq,h10,h11]
    by_cases hi : (i : Int) < l.length
    · obtain ⟨p,hp1⟩ : ∃ p,l[i]? = some p:=⟨_,List.getElem?_eq_getElem (by omega)⟩
      have hpk:=hk p (List.mem_of_getElem? hp1)
      rcases hv with ⟨rfl,c,rfl⟩ | ⟨g,off,cap,cur,rfl,hg,hcur⟩
      · simp at him; simp at hi; omega
      · obtain ⟨hsz,hex⟩:=row_at (s:=2) (cells:=pairC) (fun _=>rfl) hcur hp1 (by decide)
        simp only [ZB,insVc,loadNK,storeNK,setMany,iaddrK,isPlain,Value.cells,ne_eq,Nat.reduceEqDiff,Nat.reduceAdd,Nat.reduceLeDiff,Zak,Zai,Zaj,Zal,Zam,Zan,Zax,Zas,Zat,Zau,Zbg,hi,h9,h11,hm.keep hg id,hex,pairC]
        refine ⟨by omega,hsz, ?_⟩
        refine vc_gen ?_
        intro w1 hw1
        have hm1 : Mod (fun _=>False) w' w1:=by rw [hw1]; exact ((Mod.refl _ _).alloc _).set (.inl (Nat.le_refl _))
        have e1 : w1.heap[w'.heap.size]? = some (.cells #[.string p.1,.string p.2] 29 (0,0)):=by rw [hw1]; simp only [size_alloc,Zbe,Zao,size_alloc]
        clear hw1
        have hsh1:=hsh.keep hm1 id id
        have hwl:=hm.size
        have hne1 : w'.heap.size≠w.heap.size:=by have:=World.ownsMap.lt hsh.2.1; omega
        have hne2 : w'.heap.size≠w.heap.size + 1:=by have:=lt_of_get hsh.1; omega
        refine draw_d (fun W=>W.heap[w'.heap.size]? = some (.cells #[.string p.1,.string p.2] 29 (0,0))∧W.heap[w.heap.size + 1]? = some (.cells #[.map (some w.heap.size)] 123 (0,0))) (by kernel_rfl) (by kernel_rfl) (by kernel_rfl) (by kernel_rfl) ⟨e1,hsh1.1⟩ ?_
        simp only [ZB,insVc,nilK,nilM,iopK,iopV,faddrK,ne_eq,Nat.reduceEqDiff,reduceCtorEq,Zac,Zag,pureI,vcD_nil,vcD_cons,stepD_pure,stepD_load,stepD_step,kindI,loadI,h3]
        refine loadD1 (b:=w.heap.size + 1) (o:=0) (v:=.map (some w.heap.size)) rfl (fun W hW=>⟨_,_,_,hW.2,rfl⟩) ?_
        refine loadD1 (b:=w'.heap.size) (o:=0) (v:=.string p.1) rfl (fun W hW=>⟨_,_,_,hW.1,rfl⟩) ?_
        refine loadD1 (b:=w'.heap.size) (o:=1) (v:=.string p.2) rfl (fun W hW=>⟨_,_,_,hW.1,rfl⟩) ?_
        obtain ⟨w2,hr,hM2,hmod2⟩:=IsM.store (w:=w1.drew) hsh1.2.1 p.1 p.2 hpk.1 hpk.2 (by simp [maxLen]; omega)
        refine rawK_mapUpdate rfl rfl rfl rfl (by simpa only [vc_skip,vc_seq,vc_cond,vc_block,vc_exit,vc_ret,vc_ops,vcOps_nil,vcOps_cons,vcOps_gate,gateK_true,gateK_false,gate_true,gate_false,gate_undef,goL_apply,thenQ_normal,thenQ_ret,thenQ_exit,blockQ_normal,blockQ_ret,blockQ_same,blockQ_exit,condP_true,condP_false,upd_same,upd_other,updO_some,updO_none,ev_tmp,ev_const,ev_global,ev_func,endQ_ret,endQ_normal,endK,resK,resN,res1,resO_cells,resNO_cells,packed,initE_at,insVc,pickK,load1K,loadO_cells,loadV_some,loadV_none,loadNK,loadNO_cells,storeK,storeO_cells,storeNK,storeNO_cells,setMany,nilK,nilM,iopK,iopV,sopK,sopV,bopK,nilOf,pnilK,notK,convK,sameK,faddrK,fld1K,fldNK,iaddrK,iaddrAK,sidxK,extK,lenSK,lenLK,callvK,invK,buildK,fillL,buildSK,boundOf,slSK,slLK,slAK,isPlain,Value.cells,ne_eq,not_false_eq_true,not_true_eq_false,Nat.reduceEqDiff,Nat.reduceAdd,Nat.reduceLT,Nat.reduceLeDiff,reduceCtorEq,Bool.not_true,Bool.not_false,Option.map_some,Option.map_none,Option.getD_some,Option.getD_none,List.map_cons,List.map_nil,List.getElem?_cons_zero,List.getElem?_cons_succ,List.getElem?_nil,List.getElem?_toArray,List.size_toArray,List.length_cons,List.length_nil,List.zipIdx_cons,List.zipIdx_nil,List.foldl_cons,List.foldl_nil,List.setIfInBounds_toArray,List.set_cons_zero,List.set_cons_succ,List.append_eq,List.nil_append,List.cons_append,List.append_nil,List.toList_toArray,true_and,and_true,true_or,or_true,or_false,false_or,and_self,if_true,if_false,ite_true,ite_false,Bool.false_eq_true,Nat.zero_add,Nat.add_zero,decide_true,decide_false,Bool.and_true,Bool.and_false,Bool.true_and,Bool.false_and,Option.isNone_some,Option.isNone_none,Int.reduceLT,Int.reduceLE,Int.reduceToNat,Int.toNat_natCast,Int.reduceAdd,Int.reduceSub,Int.reduceMul,Int.reduceNeg,Int.reduceEq,Int.reduceNe,Int.reduceBEq,Int.reduceBNe,Nat.mul_one,List.extract_toArray,List.extract_eq_take_drop,List.drop_zero,List.drop_succ_cons,List.take_zero,List.take_succ_cons,Nat.sub_zero,Nat.add_sub_cancel,Nat.add_sub_cancel_left,vcS_nil,vcS_cons,vcS_gate,gateS_true,gateS_false,stepB_true,stepB_false,pureI,Nat.zero_mul,Nat.one_mul,Nat.reduceMul,Nat.reduceSub,List.all_toArray',List.all_cons,List.all_nil,size_set,size_alloc,size_drew,get_alloc_new,get_set_same,get_drew,Nat.lt_add_one,vcD_nil,vcD_cons,vcD_gate,gateD_true,gateD_false,stepD_pure,stepD_load,stepD_step,kindI,loadI] using hr) ?_
        have f1:=hmod2.keep (show w1.drew.heap[w'.heap.size]? = _ from e1) hne1
        have f2:=hmod2.keep (show w1.drew.heap[w.heap.size + 1]? = _ from hsh1.1) (by omega)
        refine ⟨⟨f1,f2⟩, ?_⟩
        simp only [true_and,h9,h10,h11]
        refine ⟨k - 1,by omega, ?_,i + 1,by omega,by rw [wrap_i64 _ (by omega)]; rfl,f2, ?_,by omega⟩
        · exact (hm.trans hm1).drew.then hmod2 (fun i hi hk=>by omega)
        · have e : l.take (i + 1) = l.take i ++ [p]:=by rw [List.take_add_one,hp1]; rfl
          rw [e,List.foldl_append]
          exact hM2
    · have hil : i = l.length:=by omega
      subst hil
      simp only [ZB,endK,resK,packed,insVc,ne_eq,Nat.reduceEqDiff,Zaa,hi,h3]
      rw [List.take_length] at hsh
      exact h w' _ _ hm (by omega) (Nat.le_refl _) hsh
end Go.Oct
namespace Go.Oct
open Go Go.Vc Go.VrA
set_option maxRecDepth 100000
def plainI (x : Int) : Bool:=(decide (x ≥ 97) && decide (x≤122)) || (decide (x ≥ 65) && decide (x≤90)) || (decide (x ≥ 48) && decide (x≤57)) || x == 45 || x == 95
theorem plain_c (x : Int) (w : World) (K : Value→World→Prop) (h : K (.bool (plainI x)) w) : Ok Proofs.Tryz.prog 134 #[.int .i32 x] w K:=by
  refine F134.enter (args:=[.int .i32 x]) (by simp) ?_
  unfold c134 r134
  by_cases a1 : x ≥ 97
  · have n2 : ¬ x≤90:=by omega
    have n3 : ¬ x≤57:=by omega
    have n4 : (x == 45) = false:=by rw [beq_eq_false_iff_ne]; omega
    have m1 : x ≥ 65:=by omega
    have m2 : x ≥ 48:=by omega
    have n5 : (x == 95) = false:=by rw [beq_eq_false_iff_ne]; omega
    by_cases a2 : x≤122
    · simp only [plainI,a1,a2,decide_true,Bool.true_or,Bool.and_self] at h
      simp only [ZB,endK,resK,packed,insVc,pickK,iopK,iopV,ne_eq,Nat.reduceEqDiff,reduceCtorEq,Zab,Za,Zaa,Zac,a1,a2]; exact h
    · simp only [plainI,a1,a2,n2,n3,n4,n5,m1,m2,decide_true,decide_false,Bool.and_false,Bool.or_self] at h
      simp only [ZB,endK,resK,packed,insVc,pickK,iopK,iopV,ne_eq,Nat.reduceEqDiff,reduceCtorEq,Zab,Za,Zaa,Zac,Zag,a1,a2,n2,n3,n4,n5,m1,m2]; exact h
  · by_cases b1 : x ≥ 65
    · have m2 : x ≥ 48:=by omega
      have n3 : ¬ x≤57:=by omega
      have n4 : (x == 45) = false:=by rw [beq_eq_false_iff_ne]; omega
      by_cases b2 : x≤90
      · simp only [plainI,a1,b1,b2,decide_true,decide_false,Bool.false_and,Zci,Bool.true_or,Bool.and_self] at h
        simp only [ZB,endK,resK,packed,insVc,pickK,iopK,iopV,ne_eq,Nat.reduceEqDiff,reduceCtorEq,Zab,Za,Zaa,Zac,Zag,a1,b1,b2]; exact h
      · simp only [plainI,a1,b1,b2,n3,n4,m2,decide_true,decide_false,Bool.false_and,Bool.and_false,Zci,Bool.or_self] at h
        simp only [ZB,endK,resK,packed,insVc,pickK,iopK,iopV,ne_eq,Nat.reduceEqDiff,reduceCtorEq,Zab,Za,Zaa,Zac,Zag,a1,b1,b2,n3,n4,m2]; exact h
    · have n5 : (x == 95) = false:=by rw [beq_eq_false_iff_ne]; omega
      by_cases c1 : x ≥ 48
      · have n4 : (x == 45) = false:=by rw [beq_eq_false_iff_ne]; omega
        by_cases c2 : x≤57
        · simp only [plainI,a1,b1,c1,c2,decide_true,decide_false,Bool.false_and,Zci,Bool.true_or,Bool.and_self] at h
          simp only [ZB,endK,resK,packed,insVc,pickK,iopK,iopV,ne_eq,Nat.reduceEqDiff,reduceCtorEq,Zab,Za,Zaa,Zac,Zag,a1,b1,c1,c2]; exact h
        · simp only [plainI,a1,b1,c1,c2,n4,n5,decide_true,decide_false,Bool.false_and,Bool.and_false,Bool.or_self] at h
          simp only [ZB,endK,resK,packed,insVc,pickK,iopK,iopV,ne_eq,Nat.reduceEqDiff,reduceCtorEq,Zab,Za,Zaa,Zac,Zag,a1,b1,c1,c2,n4,n5]; exact h
      · simp only [plainI,a1,b1,c1,n5,decide_false,Bool.false_and,Zci,Bool.or_false] at h
        simp only [ZB,insVc,pickK,iopK,iopV,ne_eq,Nat.reduceEqDiff,reduceCtorEq,Zab,Za,Zag,a1,b1,c1]
        by_cases d : (x == 45) = true
        · simp only [d] at h
          simp only [ZB,endK,resK,packed,insVc,pickK,ne_eq,Nat.reduceEqDiff,Zaa,Zac,d]; exact h
        · have d' : (x == 45) = false:=by simpa using d
          simp only [d'] at h
          simp only [ZB,endK,resK,packed,insVc,pickK,iopK,iopV,ne_eq,Nat.reduceEqDiff,reduceCtorEq,Zab,Za,Zaa,Zag,d',n5]; exact h
theorem notPlain_c (x : Int) (w : World) (K : Value→World→Prop) (h : K (.bool !(plainI x)) w) : Ok Proofs.Tryz.prog 133 #[.int .i32 x] w K:=by
  refine F133.enter (args:=[.int .i32 x]) (by simp) ?_
  unfold c133 r133
  simp only [ZB,insVc,ne_eq,reduceCtorEq,Zab,Zad,Zae,Za]
  refine plain_c x w _ ?_
  simp only [ZB,endK,resK,packed,insVc,notK,Zaa]
  exact h
def nameB (s : ByteArray) : Bool:=!(s.toList == (⟨#[]⟩ : ByteArray).toList) && decide (s.size≤32) && !decide (0≤Lib.idxFunc (fun x => !(plainI x)) true s)
theorem containsFunc_c (s : ByteArray) (w : World) (K : Value→World→Prop) (h : ∀ w',Mod (fun _=>False) w w'→K (.bool (decide (0≤Lib.idxFunc (fun x => !(plainI x)) true s))) w') :
    Ok Proofs.Tryz.prog 132 #[.string s,.func (.func 133) #[] #[]] w K:=by
  refine ok_of_calls (by kernel_rfl) (Proofs.Tryz.strings_ContainsFunc 133 #[] (Go.Proofs.enters_of Proofs.Tryz.func133 (by kernel_rfl) rfl) (fun x => !(plainI x)) s w ?_) ?_
  · intro W x _
    have hk : Ok Proofs.Tryz.prog 133 #[.int .i32 (x : Int)] W (fun v w'=>v = .bool (!(plainI x))∧w' = W):=notPlain_c x W _ ⟨rfl,rfl⟩
    refine (callsIn_wide.1 hk.2).mono ?_
    rintro e w' ⟨v,rfl,rfl,rfl⟩
    exact ⟨rfl,0,rfl⟩
  · rintro e w' ⟨rfl,hlo⟩
    exact ⟨_,rfl,h w' (Mod.of_below hlo)⟩
theorem name_c (s : ByteArray) (w : World) (K : Value→World→Prop) (h : ∀ w',Mod (fun _=>False) w w'→K (.bool (nameB s)) w') : Ok Proofs.Tryz.prog 59 #[.string s] w K:=by
  refine F59.enter (args:=[.string s]) (by simp) ?_
  unfold c59 r59
  simp only [ZB,insVc,sopK,sopV,ne_eq,reduceCtorEq,Zab,Za]
  refine gateK_split ?_ ?_
  · intro h1
    simp only [ZB,insVc,pickK,iopK,iopV,lenSK,ne_eq,Nat.reduceEqDiff,reduceCtorEq,Zab,Za,Zac,h1]
    by_cases h2 : (s.size : Int)≤32
    · simp only [ZB,insVc,ne_eq,Nat.reduceEqDiff,reduceCtorEq,Zab,Zad,Zae,Za,h2]
      refine containsFunc_c s w _ ?_
      intro w1 hm
      simp only [ZB,endK,resK,packed,insVc,pickK,notK,ne_eq,Nat.reduceEqDiff,Zaa,Zac]
      have e : nameB s = !decide (0≤Lib.idxFunc (fun x => !(plainI x)) true s):=by
        have e1 : (!(s.toList == (⟨#[]⟩ : ByteArray).toList)) = true:=h1
        have e2 : decide (s.size≤32) = true:=by simpa using (by omega : s.size≤32)
        simp only [nameB,e1,e2,Bool.true_and]
      rw [e] at h
      exact h w1 hm
    · simp only [ZB,endK,resK,packed,insVc,pickK,ne_eq,Nat.reduceEqDiff,Zaa,Zag,h2]
      have e : nameB s = false:=by
        have e2 : decide (s.size≤32) = false:=by simpa using (by omega : 32 < s.size)
        simp only [nameB,e2,Bool.and_false,Bool.false_and]
      rw [e] at h
      exact h w (Mod.refl _ _)
  · intro h1
    simp only [ZB,endK,resK,packed,insVc,pickK,ne_eq,Nat.reduceEqDiff,Zaa,Zag,h1]
    have e : nameB s = false:=by
      have e1 : (!(s.toList == (⟨#[]⟩ : ByteArray).toList)) = false:=h1
      simp only [nameB,e1,Bool.false_and]
    rw [e] at h
    exact h w (Mod.refl _ _)
end Go.Oct
namespace Go.Oct
open Go Go.Vc
theorem before_less : ∀ a b : List UInt8,bytesBefore a b = Op.bytesLess a b
  | [],[]=>rfl
  | [],_ :: _=>rfl
  | _ :: _,[]=>rfl
  | a :: r,b :: s=>by simp only [bytesBefore,Op.bytesLess,before_less r s]
def SortedM (m : M) : Prop:=m.Pairwise fun p q=>p.1 < q.1
def inR (a b : List UInt8) (p : List UInt8 × List UInt8) : Bool:=!(Op.bytesLess p.1 a || (!(b == []) && !(Op.bytesLess p.1 b)))
def rngM (a b : List UInt8) (m : M) : M:=m.filter (inR a b)
theorem sort_keys {m : M} (h : SortedM m) {ss : List (List UInt8)} (hp : ss.Perm (m.map (·.1))) : ss.mergeSort (fun x y=>decide (x≤y)) = m.map (·.1):=by
  have h1:=mergeSort_of_perm hp
  have h2 : (m.map (·.1)).Pairwise (fun a b=>leB a b = true):=by
    rw [List.pairwise_map]
    exact h.imp fun hab=>by simp only [leB,decide_eq_true_eq]; exact List.le_of_lt hab
  have h3:=List.mergeSort_of_pairwise h2
  exact h1.trans h3
theorem look_mem : ∀ {m : M},SortedM m→∀ {p},p ∈ m→lookM p.1 m = some p.2:=by
  intro m
  induction m with
  | nil=>intro _ p hp; cases hp
  | cons y r ih =>
    intro h p hp
    have h':=List.pairwise_cons.1 h
    unfold lookM
    rcases List.mem_cons.1 hp with rfl | hp
    · simp
    · have hlt:=h'.1 p hp
      have hne : ¬ y.1 = p.1:=fun e=>by rw [e] at hlt; exact List.lt_irrefl _ hlt
      rw [if_neg (by simpa using hne)]
      exact ih h'.2 hp
theorem sorted_of_canon {m : M} (h : Maps.Canon (DM m)) : SortedM m:=by
  obtain ⟨es,he,hp,_⟩:=h
  have e : encM m = es:=by injection he
  subst e
  unfold encM at hp
  rw [List.pairwise_map] at hp
  refine hp.imp fun {p q} hpq => ?_
  have : bytesBefore p.1 q.1 = true:=hpq
  rw [before_less,Go.Proofs.bytesLess_eq] at this
  exact of_decide_eq_true this
end Go.Oct
