import Derived.Test.YtbkddpckkgbbmaaGreatDoorProg
import Derived.Test.YtbkddpckkgbbmaaGreatDoorVcI
import Derived.Test.YtbkddpckkgbbmaaGreatDoorVpI
import Derived.Test.YtbkddpckkgbbmaaGreatDoorVfM
import Derived.Test.YtbkddpckkgbbmaaGreatDoorVfI
import Derived.Test.YtbkddpckkgbbmaaGreatDoorVoV
set_option linter.unusedSimpArgs false
set_option linter.unusedVariables false
set_option linter.unusedSectionVars false
set_option linter.unnecessarySimpa false
namespace Go.VrE
open Go Go.Vc
set_option maxRecDepth 100000
noncomputable def c285 : CC:=(.seq (.ops [⟨none,(some 4),(.mv (.const (.bool false)))⟩,⟨none,(some 5),(.mv (.const (.int .i64 0)))⟩])
 (.seq (.ops [⟨none,(some 9),(.mv (.tmp 0))⟩,⟨none,(some 10),(.nilc (.tmp 9))⟩,⟨none,(some 11),(.faddr 0 (.tmp 10))⟩,⟨none,(some 12),(.load1 (.tmp 11))⟩,⟨none,(some 13),(.mv (.tmp 1))⟩,⟨none,(some 14),(.raw 23 (.mk (some 14) (.lookup 121 (.tmp 12) (.tmp 13) true) 238 "registry.go:74" #[(.mk 3 .data),(.mk 4 .data)] none))⟩,⟨none,(some 8),(.mv (.tmp 14))⟩,⟨none,(some 15),(.ext (.tmp 8) 0)⟩,⟨none,(some 16),(.ext (.tmp 8) 1)⟩,⟨none,(some 6),(.mv (.tmp 15))⟩,⟨none,(some 7),(.mv (.tmp 16))⟩])
 (.seq (.ops [⟨none,(some 17),(.mv (.tmp 0))⟩,⟨none,(some 18),(.nilc (.tmp 17))⟩,⟨none,(some 19),(.faddr 0 (.tmp 18))⟩,⟨none,(some 20),(.load1 (.tmp 19))⟩,⟨none,(some 21),(.mv (.tmp 1))⟩,⟨none,none,(.raw 23 (.mk none (.call (.mk (.builtin .delete) #[(.tmp 20),(.tmp 21)] #[121,9])) 0 "registry.go:75" #[(.mk 3 .data),(.mk 4 .data)] none))⟩])
 (.seq (.ops [⟨none,(some 22),(.mv (.tmp 7))⟩,⟨none,(some 4),(.mv (.tmp 22))⟩,⟨none,(some 5),(.mv (.const (.int .i64 0)))⟩])
 .ret))))
abbrev r285 : List RV:=[(.tmp 4),(.tmp 5)]
theorem F285 : FnOk Go.Proofs.Tryz.prog 285 23 c285 r285:=⟨_,Go.Proofs.Tryz.func285,by kernel_rfl,by kernel_rfl,by kernel_rfl,by kernel_rfl,by kernel_rfl⟩
end Go.VrE
namespace Go.Oct
open Go Go.Vc Go.VrA Go.VrE Go.ChangeMaps
set_option maxRecDepth 100000
section
variable {P : Program} {n : Nat} {go : Value→World→Prop} {ρ : Env} {ds : List Deferred} {w : World} {o : Oper}
theorem rawK_delete {s x : Operand} {t tx : TypeId} {v : Value} {w' : World} (ho : o.op = .call { callee:=.builtin .delete,args:=#[s,x],argTypes:=#[t,tx] })
    (hs : inB n s = true) (hx : inB n x = true) (hr : (Builtin.delete_ #[t,tx] o.type #[ev ρ s,ev ρ x]).run P w = .ok v w') (h : go v w') : RawK P go ρ ds n o w:=by
  unfold RawK
  simp only [execOp,ho,resolve,Sem.run_bind,pure,Sem.run,Result.andThen,invoke,builtin]
  have e : (#[s,x] : Array Operand).map (mkA n ρ ds).eval = #[ev ρ s,ev ρ x]:=by simp [mkA_eval n ρ ds s hs,mkA_eval n ρ ds x hx]
  rw [e,hr]
  exact h
end
theorem IsM.drop {w : World} {mb n : Nat} {m : M} (h : IsM w mb n m) (k : ByteArray) (hk : k.size≤maxLen) (ty : TypeId) :
    ∃ w',(Builtin.delete_ #[121,9] ty #[.map (some mb),.string k]).run Proofs.Tryz.prog w = .ok (.tuple #[]) w'∧IsM w' mb n (delM k.data.toList m)∧Mod (fun i=>i = mb) w w':=by
  obtain ⟨w',hr,ho,es,clock,es',clock',hb,rfl⟩:=World.ownsMap.drop h (Maps.string_keyed tStr) tMap (WideMaps.keyOf_string_mk tStr hk) ty
  refine ⟨_,hr, ?_, ?_⟩
  · unfold IsM
    rw [← DM_del]
    exact ho
  · exact ⟨rfl,rfl,rfl,by simp [setBlock],fun i _ hi=>heap_setBlock_other hb _ (fun e=>hi e)⟩
theorem sdel_c (sb mb n : Nat) (m : M) (k : ByteArray) (w : World) (K : Value→World→Prop) (hs : IsShelf w sb mb n m) (hk : k.size≤maxLen)
    (h : ∀ w',Mod (fun i=>i = mb) w w'→IsShelf w' sb mb n (delM k.data.toList m)→K (.tuple #[.bool (lookM k.data.toList m).isSome,.int .i64 0]) w') :
    Ok Proofs.Tryz.prog 285 #[ptr sb,.string k] w K:=by
  refine F285.enter (args:=[ptr sb,.string k]) (by simp) ?_
  unfold c285 r285
  simp only [ZB,insVc,load1K,nilK,faddrK,ne_eq,Nat.reduceEqDiff,reduceCtorEq,Zab,Za,Zaf,Zah,hs.1]
  refine rawK_lookup rfl rfl rfl (by simpa only [vc_skip,vc_seq,vc_cond,vc_block,vc_exit,vc_ret,vc_ops,vcOps_nil,vcOps_cons,vcOps_gate,gateK_true,gateK_false,gate_true,gate_false,gate_undef,goL_apply,thenQ_normal,thenQ_ret,thenQ_exit,blockQ_normal,blockQ_ret,blockQ_same,blockQ_exit,condP_true,condP_false,upd_same,upd_other,updO_some,updO_none,ev_tmp,ev_const,ev_global,ev_func,endQ_ret,endQ_normal,endK,resK,resN,res1,resO_cells,resNO_cells,packed,initE_at,insVc,pickK,load1K,loadO_cells,loadV_some,loadV_none,loadNK,loadNO_cells,storeK,storeO_cells,storeNK,storeNO_cells,setMany,nilK,nilM,iopK,iopV,sopK,sopV,bopK,nilOf,pnilK,notK,convK,sameK,faddrK,fld1K,fldNK,iaddrK,iaddrAK,sidxK,extK,lenSK,lenLK,callvK,invK,buildK,fillL,buildSK,boundOf,slSK,slLK,slAK,isPlain,Value.cells,ne_eq,not_false_eq_true,not_true_eq_false,Nat.reduceEqDiff,Nat.reduceAdd,Nat.reduceLT,Nat.reduceLeDiff,reduceCtorEq,Bool.not_true,Bool.not_false,Option.map_some,Option.map_none,Option.getD_some,Option.getD_none,List.map_cons,List.map_nil,List.getElem?_cons_zero,List.getElem?_cons_succ,List.getElem?_nil,List.getElem?_toArray,List.size_toArray,List.length_cons,List.length_nil,List.zipIdx_cons,List.zipIdx_nil,List.foldl_cons,List.foldl_nil,List.setIfInBounds_toArray,List.set_cons_zero,List.set_cons_succ,List.append_eq,List.nil_append,List.cons_append,List.append_nil,List.toList_toArray,true_and,and_true,true_or,or_true,or_false,false_or,and_self,if_true,if_false,ite_true,ite_false,Bool.false_eq_true,Nat.zero_add,Nat.add_zero,decide_true,decide_false,Bool.and_true,Bool.and_false,Bool.true_and,Bool.false_and,Option.isNone_some,Option.isNone_none,Int.reduceLT,Int.reduceLE,Int.reduceToNat,Int.toNat_natCast,Int.reduceAdd,Int.reduceSub,Int.reduceMul,Int.reduceNeg,Int.reduceEq,Int.reduceNe,Int.reduceBEq,Int.reduceBNe,Nat.mul_one,List.extract_toArray,List.extract_eq_take_drop,List.drop_zero,List.drop_succ_cons,List.take_zero,List.take_succ_cons,Nat.sub_zero,Nat.add_sub_cancel,Nat.add_sub_cancel_left,vcS_nil,vcS_cons,vcS_gate,gateS_true,gateS_false,stepB_true,stepB_false,pureI,Nat.zero_mul,Nat.one_mul,Nat.reduceMul,Nat.reduceSub,List.all_toArray',List.all_cons,List.all_nil,size_set,size_alloc,size_drew,get_alloc_new,get_set_same,get_drew,Nat.lt_add_one,vcD_nil,vcD_cons,vcD_gate,gateD_true,gateD_false,stepD_pure,stepD_load,stepD_step,kindI,loadI] using hs.2.1.look k hk true) ?_
  simp only [ZB,insVc,load1K,nilK,faddrK,extK,ne_eq,Nat.reduceEqDiff,reduceCtorEq,Zab,Za,Zaf,Zah,hs.1]
  obtain ⟨w',hr,hm,hmod⟩:=hs.2.1.drop k hk 0
  refine rawK_delete rfl rfl rfl (by simpa only [vc_skip,vc_seq,vc_cond,vc_block,vc_exit,vc_ret,vc_ops,vcOps_nil,vcOps_cons,vcOps_gate,gateK_true,gateK_false,gate_true,gate_false,gate_undef,goL_apply,thenQ_normal,thenQ_ret,thenQ_exit,blockQ_normal,blockQ_ret,blockQ_same,blockQ_exit,condP_true,condP_false,upd_same,upd_other,updO_some,updO_none,ev_tmp,ev_const,ev_global,ev_func,endQ_ret,endQ_normal,endK,resK,resN,res1,resO_cells,resNO_cells,packed,initE_at,insVc,pickK,load1K,loadO_cells,loadV_some,loadV_none,loadNK,loadNO_cells,storeK,storeO_cells,storeNK,storeNO_cells,setMany,nilK,nilM,iopK,iopV,sopK,sopV,bopK,nilOf,pnilK,notK,convK,sameK,faddrK,fld1K,fldNK,iaddrK,iaddrAK,sidxK,extK,lenSK,lenLK,callvK,invK,buildK,fillL,buildSK,boundOf,slSK,slLK,slAK,isPlain,Value.cells,ne_eq,not_false_eq_true,not_true_eq_false,Nat.reduceEqDiff,Nat.reduceAdd,Nat.reduceLT,Nat.reduceLeDiff,reduceCtorEq,Bool.not_true,Bool.not_false,Option.map_some,Option.map_none,Option.getD_some,Option.getD_none,List.map_cons,List.map_nil,List.getElem?_cons_zero,List.getElem?_cons_succ,List.getElem?_nil,List.getElem?_toArray,List.size_toArray,List.length_cons,List.length_nil,List.zipIdx_cons,List.zipIdx_nil,List.foldl_cons,List.foldl_nil,List.setIfInBounds_toArray,List.set_cons_zero,List.set_cons_succ,List.append_eq,List.nil_append,List.cons_append,List.append_nil,List.toList_toArray,true_and,and_true,true_or,or_true,or_false,false_or,and_self,if_true,if_false,ite_true,ite_false,Bool.false_eq_true,Nat.zero_add,Nat.add_zero,decide_true,decide_false,Bool.and_true,Bool.and_false,Bool.true_and,Bool.false_and,Option.isNone_some,Option.isNone_none,Int.reduceLT,Int.reduceLE,Int.reduceToNat,Int.toNat_natCast,Int.reduceAdd,Int.reduceSub,Int.reduceMul,Int.reduceNeg,Int.reduceEq,Int.reduceNe,Int.reduceBEq,Int.reduceBNe,Nat.mul_one,List.extract_toArray,List.extract_eq_take_drop,List.drop_zero,List.drop_succ_cons,List.take_zero,List.take_succ_cons,Nat.sub_zero,Nat.add_sub_cancel,Nat.add_sub_cancel_left,vcS_nil,vcS_cons,vcS_gate,gateS_true,gateS_false,stepB_true,stepB_false,pureI,Nat.zero_mul,Nat.one_mul,Nat.reduceMul,Nat.reduceSub,List.all_toArray',List.all_cons,List.all_nil,size_set,size_alloc,size_drew,get_alloc_new,get_set_same,get_drew,Nat.lt_add_one,vcD_nil,vcD_cons,vcD_gate,gateD_true,gateD_false,stepD_pure,stepD_load,stepD_step,kindI,loadI] using hr) ?_
  simp only [ZB,endK,resK,packed,insVc,ne_eq,Nat.reduceEqDiff,Zaa,Zap]
  exact h w' hmod ⟨hmod.keep hs.1 hs.2.2,hm,hs.2.2⟩
structure StoC (σ : Type) extends Sto σ where
  cut : σ→ByteArray→(Bool × Int) × σ
  cutOk : ∀ s k w (G : Value→World→Prop),At s w→k.size≤255 →
    (∀ w',Mod own w w'→At (cut s k).2 w'→G (.tuple #[.bool (cut s k).1.1,.int .i64 (cut s k).1.2]) w')→InvK Proofs.Tryz.prog G t v "Cut" [.string k] w
def shelfC (sb mb : Nat) (h0 : 0≠mb) : StoC (Nat × M) where
  toSto:=shelf sb mb h0
  cut s k:=(((lookM k.data.toList s.2).isSome,0),(s.1,delM k.data.toList s.2))
  cutOk s k w G h hk hG:=⟨285,ptr sb,by kernel_rfl,sdel_c sb mb s.1 s.2 k w G h (by simp [maxLen]; omega) (fun w' hm hs=>hG w' hm hs)⟩
end Go.Oct
namespace Go.Oct
open Go Go.Vc Go.VrA Go.VrF
set_option maxRecDepth 100000
def mixE (kind : Int) : List (Bi × Int)→Int
  | []=>0
  | r :: l=>if r.2≠0 then r.2 else if r.1.kind≠kind then 11 else mixE kind l
def Sto.mixed {σ : Type} (St : Sto σ) (s : σ) (b : Bi) : Int:=mixE b.kind (thingsB (St.under s ⟨#[98]⟩ [str b.ex]))
theorem mixed_c {σ : Type} (St : Sto σ) (s : σ) (hpr : PureRng St s) (b : Bi) (m : Int) (w : World) (K : Value→World→Prop) (hAt : St.At s w) (hg : Gl m w) (h0 : 0 < w.heap.size) (hb : b.good)
    (h : ∀ w',Mod (fun _=>False) w w'→K (.int .i64 (St.mixed s b)) w') :
    Ok Proofs.Tryz.prog 84 #[.iface St.t St.v,b.val] w K:=by
  refine F84.enter (args:=[.iface St.t St.v,b.val]) (by simp) ?_
  unfold c84 r84
  simp only [ZB,insVc,load1K,faddrK,Value.cells,ne_eq,Nat.reduceEqDiff,reduceCtorEq,Zab,Zad,Zae,Za,Zaf,Zah,Zac,Zag,get_alloc,Zbl,Nat.reduceEqDiff,Zbi,Bi.val,Bi.cells]
  refine callK_gen ?_
  intro w1 hw1
  have hm1 : Mod (fun _=>False) w w1:=by rw [hw1]; exact ((Mod.refl _ _).alloc _).alloc _
  have o1 : w1.heap[w.heap.size]? = some (.cells #[.string b.ex,.int .i64 b.kind,.string b.key,.string b.q] 64 (0,0)):=by rw [hw1]; simp only [Zac,Zag,size_alloc,get_alloc,size_alloc,Zbl,Zbi]
  have b1 : w1.heap[w.heap.size + 1]? = some (.cells #[.int .i64 0] 23 (0,0)):=by rw [hw1]; simp only [Zac,Zag,size_alloc,get_alloc,size_alloc,Zbj,Zbi]
  have hz1 : w1.heap.size = w.heap.size + 2:=by rw [hw1]; simp only [Nat.reduceAdd,size_alloc,size_alloc,Zaq,Nat.reduceAdd]
  clear hw1
  refine bindings_c St s hpr b.ex m w1 _ hb.1 ?_
  intro w2 gf cap hm2 it
  unfold Sto.mixed at h
  revert h it
  generalize thingsB (St.under s ⟨#[98]⟩ [str b.ex]) = L
  intro h it
  have hm12:=hm1.trans hm2
  have o2:=hm2.keep o1 id
  have b2:=hm2.keep b1 id
  have z2:=hm2.size
  have hfoot : ∀ k,w.heap.size≤k→¬ St.foot k:=fun k hk x=>by have:=St.footLt s w _ hAt x; omega
  obtain ⟨F,hFe⟩ : ∃ F : World→Prop,F = fun u=>St.At s u∧Gl m u∧Kept w1.heap.size w2 u:=⟨_,rfl⟩
  rw [← hFe] at it
  have hF0 : F w2:=by rw [hFe]; exact ⟨St.keep0 hAt hm12,hg.mod hm12 id,Kept.refl _ _⟩
  have hFs : ∀ (S : Nat→Prop) (a b : World),F a→Mod S a b→(∀ k,S k→(w.heap.size≤k∧k < w.heap.size + 2)∨w2.heap.size≤k)→F b:=by
    rw [hFe]
    rintro S a b ⟨f1,f2,f3⟩ hm hS
    exact ⟨St.keep S _ _ _ f1 hm (fun k _ hk=>hfoot k (by have:=hS k hk; omega)),f2.mod hm (fun x=>by have:=hS _ x; omega),f3.keep hm (fun k h1 h2 hk=>by have:=hS k hk; omega)⟩
  clear hFe
  simp only [ZB]
  refine range_iter (by kernel_rfl) (by kernel_rfl) (by kernel_rfl) (gf:=gf) (cap:=cap) (by simp only [ZB]) it
    (fun i X u=>F u∧Mod (fun _=>False) w u∧u.heap[w.heap.size]? = some (.cells #[.string b.ex,.int .i64 b.kind,.string b.key,.string b.q] 64 (0,0))∧u.heap[w.heap.size + 1]? = some (.cells #[.int .i64 0] 23 (0,0))∧mixE b.kind L = mixE b.kind (L.drop i))
    (fun c X u=>c = .ret∧Mod (fun _=>False) w u∧u.heap[w.heap.size + 1]? = some (.cells #[.int .i64 (mixE b.kind L)] 23 (0,0))) ?_ ?_ ?_ ?_ ?_ ?_ ?_ ?_
  · intro X w' hm hsz hX
    exact ⟨hFs _ _ _ hF0 hm (fun _ x=>x.elim),hm12.trans hm,hm.keep o2 id,hm.keep b2 id,rfl⟩
  · rintro i X u ⟨h1,_⟩
    exact h1
  · rintro i X X' a c ⟨h1,h2,h3,h4,h5⟩ hX ha hm hxx
    have hge : ∀ k,X k→w2.heap.size≤k:=fun k hk=>by have:=hX k hk; omega
    exact ⟨hFs X _ _ h1 hm (fun k hk=>.inr (hge k hk)),h2.then hm (fun i hi hk=>by have:=hge i hk; omega),hm.keep h3 (fun x=>by have:=hge _ x; omega),hm.keep h4 (fun x=>by have:=hge _ x; omega),h5⟩
  · rintro c X X' a d ⟨rfl,h2,h4⟩ hX ha hm hxx
    have hge : ∀ k,X k→w2.heap.size≤k:=fun k hk=>by have:=hX k hk; omega
    exact ⟨rfl,h2.then hm (fun i hi hk=>by have:=hge i hk; omega),hm.keep h4 (fun x=>by have:=hge _ x; omega)⟩
  · intro i hi
    rw [List.getElem?_eq_getElem hi]
    simp [biV]
  · intro i hi X a ⟨h1,h2,h3,h4,h5⟩ hX ha
    obtain ⟨r,hr⟩ : ∃ r,L[i]? = some r:=⟨L[i]'(by simpa [biV] using hi),List.getElem?_eq_getElem _⟩
    have hrow : ((biV L)[i]?.getD []) = [r.1.val,.int .i64 r.2]:=by simp [biV,hr]
    have hdrop : L.drop i = r :: L.drop (i + 1):=List.drop_eq_getElem?_toList_append.trans (by rw [hr]; rfl)
    rw [hdrop] at h5
    rw [hrow]
    simp only [ZB,insVc,storeNK,setMany,iopK,iopV,isPlain,Value.cells,ne_eq,Nat.reduceEqDiff,Nat.reduceAdd,Nat.reduceLeDiff,reduceCtorEq,Zak,Zai,Zaj,Zal,Zam,Zan,Zas,Zat,Zau,Zbg,updMany,Bi.val,Bi.cells]
    refine ⟨((Mod.refl _ _).alloc _).set (.inl (Nat.le_refl _)), ?_⟩
    rintro c hmc ⟨k1,k2,k3,k4,_⟩
    have hxa : ¬ X a.heap.size:=fun x=>by have:=(hX _ x).2; omega
    have pC:=hmc.keep (get_set_same _ _ (.cells #[.string r.1.ex,.int .i64 r.1.kind,.string r.1.key,.string r.1.q] 64 (0,0)) (by rw [size_alloc]; omega)) hxa
    have hge : ∀ k,X k→w2.heap.size≤k∧k < c.heap.size:=fun k hk=>by have:=hX k hk; have:=hmc.size; simp only [size_set,size_alloc] at this; omega
    have l4:=lt_of_get k4
    have stopE : ∀ e : Int,mixE b.kind (r :: L.drop (i + 1)) = e →
        (c.heap.size≤(Vc.set c (w.heap.size + 1) (.cells #[.int .i64 e] 23 (0,0))).heap.size∧∀ k,X k→(Vc.set c (w.heap.size + 1) (.cells #[.int .i64 e] 23 (0,0))).heap[k]? = c.heap[k]?) ∧
        (Mod (fun _=>False) w (Vc.set c (w.heap.size + 1) (.cells #[.int .i64 e] 23 (0,0)))∧(Vc.set c (w.heap.size + 1) (.cells #[.int .i64 e] 23 (0,0))).heap[w.heap.size + 1]? = some (.cells #[.int .i64 (mixE b.kind L)] 23 (0,0))):=by
      intro e he
      refine ⟨⟨by rw [size_set]; exact Nat.le_refl _,fun k hk => ?_⟩,k2.set (.inl (by omega)), ?_⟩
      · have:=hge k hk
        exact get_set_other _ _ _ _ (by omega)
      · rw [h5,he]; exact get_set_same _ _ _ l4
    by_cases hr0 : r.2 = 0
    · have q0 : (r.2 != 0) = false:=by simpa using hr0
      simp only [ZB,insVc,load1K,iopK,iopV,faddrK,ne_eq,Nat.reduceEqDiff,reduceCtorEq,Za,Zaf,Zah,q0,pC,k3]
      by_cases hk : r.1.kind = b.kind
      · have q1 : (r.1.kind != b.kind) = false:=by simpa using hk
        simp only [ZB,reduceCtorEq,q1]
        refine ⟨⟨Nat.le_refl _,fun _ _=>trivial⟩,.inl ⟨k1,k2,k3,k4, ?_⟩⟩
        rw [h5,mixE,if_neg (by simpa using hr0),if_neg (by simpa using hk)]
      · have q1 : (r.1.kind != b.kind) = true:=by simpa using hk
        obtain ⟨x1,x2,x3⟩:=stopE 11 (by rw [mixE,if_neg (by simpa using hr0),if_pos hk])
        simp only [ZB,insVc,storeK,isPlain,ne_eq,Nat.reduceEqDiff,Nat.reduceLT,Nat.reduceLeDiff,reduceCtorEq,Zak,Zai,Zaj,Zal,Zam,Zao,q1,k4]
        exact ⟨⟨Nat.le_refl _,x1.2⟩,.inr ⟨.ret,.inl rfl,rfl,x2,x3⟩⟩
    · have q0 : (r.2 != 0) = true:=by simpa using hr0
      obtain ⟨x1,x2,x3⟩:=stopE r.2 (by rw [mixE,if_pos hr0])
      simp only [ZB,insVc,storeK,isPlain,ne_eq,Nat.reduceEqDiff,Nat.reduceLT,Nat.reduceLeDiff,reduceCtorEq,Zak,Zai,Zaj,Zal,Zam,Zao,q0,k4]
      exact ⟨⟨Nat.le_refl _,x1.2⟩,.inr ⟨.ret,.inl rfl,rfl,x2,x3⟩⟩
  · rintro X u ⟨h1,h2,h3,h4,h5⟩ ⟨d1,d2,d3⟩
    have hlen : (biV L).length = L.length:=by simp [biV]
    rw [hlen,List.drop_length] at h5
    have hA : Mod (fun k=>k = w.heap.size + 1) u (Vc.set u (w.heap.size + 1) (.cells #[.int .i64 0] 23 (0,0))):=(Mod.refl _ _).set (.inr rfl)
    have d1':=hA.keep d1 (by omega)
    have hm3:=(h2.set (b:=w.heap.size + 1) (o:=.cells #[.int .i64 0] 23 (0,0)) (.inl (by omega))).set (b:=w2.heap.size) (o:=.deferred none) (.inl (by omega))
    have hB : Mod (fun k=>k = w2.heap.size) (Vc.set u (w.heap.size + 1) (.cells #[.int .i64 0] 23 (0,0))) (Vc.set (Vc.set u (w.heap.size + 1) (.cells #[.int .i64 0] 23 (0,0))) w2.heap.size (.deferred none)):=(Mod.refl _ _).set (.inr rfl)
    have h4':=hB.keep (get_set_same _ _ (.cells #[.int .i64 0] 23 (0,0)) (lt_of_get h4)) (by omega)
    simp only [ZB,endK,resK,res1,packed,insVc,storeK,isPlain,ne_eq,Nat.reduceEqDiff,Nat.reduceLT,Nat.reduceLeDiff,Zak,Zai,Zaj,Zal,Zam,Zaa,Zao,h4,markO,d1',h4']
    have e0 : mixE b.kind L = 0:=h5
    rw [e0] at h
    exact h _ hm3
  · rintro c X u ⟨rfl,h2,h4⟩ ⟨d1,d2,d3⟩
    have hm3:=h2.set (b:=w2.heap.size) (o:=.deferred none) (.inl (by omega))
    have hB : Mod (fun k=>k = w2.heap.size) u (Vc.set u w2.heap.size (.deferred none)):=(Mod.refl _ _).set (.inr rfl)
    have h4':=hB.keep h4 (by omega)
    simp only [ZB,exitOf,endK,resK,res1,packed,ne_eq,Nat.reduceEqDiff,Zaa,markO,d1,h4']
    exact h _ hm3
def StoC.unbind {σ : Type} (St : StoC σ) (s : σ) (b : Bi) : Int × σ :=
  if (bindK b).2≠0 then (21,s) else
  (if (St.cut s (bindK b).1).1.2 = 0∧(St.cut s (bindK b).1).1.1 = false then 21 else (St.cut s (bindK b).1).1.2,(St.cut s (bindK b).1).2)
theorem unbind_c {σ : Type} (St : StoC σ) (s : σ) (b : Bi) (m : Int) (w : World) (K : Value→World→Prop) (hAt : St.At s w) (hg : Gl m w) (hb : b.good)
    (h : ∀ w',Mod St.own w w'→St.At (St.unbind s b).2 w'→K (.int .i64 (St.unbind s b).1) w') :
    Ok Proofs.Tryz.prog 74 #[.iface St.t St.v,b.val] w K:=by
  refine F74.enter (args:=[.iface St.t St.v,b.val]) (by simp) ?_
  unfold c74 r74
  have hb' : b.val = .agg #[.string b.ex,.int .i64 b.kind,.string b.key,.string b.q]:=rfl
  rw [hb']
  simp only [ZB,insVc,loadNK,Value.cells,ne_eq,Nat.reduceEqDiff,Nat.reduceAdd,Nat.reduceLeDiff,Zab,Zad,Zae,Za,Zaf,Zak,Zai,Zaj,Zac,Zb,Zaz,Zav,Zar,Zay,Zaw,get_alloc,Nat.reduceAdd,Nat.reduceEqDiff]
  refine callK_gen ?_
  intro w1 hw1
  have hm1 : Mod (fun _=>False) w w1:=by rw [hw1]; exact (Mod.refl _ _).alloc _
  clear hw1
  rw [← hb']
  refine bind_c b m w1 _ (hg.mod hm1 id) hb ?_
  intro w2 hm2
  have hm12:=hm1.trans hm2
  have hA2:=St.keep0 hAt hm12
  unfold StoC.unbind at h
  simp only [ZB,insVc,iopK,iopV,extK,ne_eq,Nat.reduceEqDiff,reduceCtorEq,Za,Zaf,Zah]
  refine condP_split ?_ ?_
  · intro hc
    have hc' : (bindK b).2≠0:=by simpa using hc
    rw [if_pos hc'] at h
    simp only [ZB,endK,resK,packed,insVc,Zaa]
    exact h w2 (hm12.mono fun _ _ x=>x.elim) hA2
  · intro hc
    have hc' : ¬ (bindK b).2≠0:=by simpa using hc
    rw [if_neg hc'] at h
    simp only [ZB,insVc,invK,ne_eq,Nat.reduceEqDiff,reduceCtorEq,Zab,Zad,Zae,Za]
    refine St.cutOk s (bindK b).1 w2 _ hA2 (keyL_size _ _ (by simp)) ?_
    intro w3 hm3 hA3
    have hm13 : Mod St.own w w3:=(hm12.mono fun _ _ x=>x.elim).trans hm3
    have h':=h w3 hm13 hA3
    revert h'
    generalize (St.cut s (bindK b).1).1 = C
    obtain ⟨c1,c2⟩:=C
    intro h'
    simp only [ZB,insVc,iopK,iopV,extK,ne_eq,Nat.reduceEqDiff,reduceCtorEq,Za,Zaf,Zah]
    by_cases hz : c2 = 0
    · subst hz
      cases c1 with
      | true=>simp only [ZB,endK,resK,packed,insVc,pickK,notK,ne_eq,Nat.reduceEqDiff,Zaa,Zac,Int.reduceBEq]; simpa using h'
      | false=>simp only [ZB,endK,resK,packed,insVc,pickK,notK,ne_eq,Nat.reduceEqDiff,Zaa,Zac,Int.reduceBEq]; simpa using h'
    · have q : (c2 == 0) = false:=by simpa using hz
      simp only [ZB,endK,resK,packed,insVc,pickK,ne_eq,Nat.reduceEqDiff,Zaa,Zag,q]
      simpa [hz] using h'
end Go.Oct
namespace Go.Oct
open Go Go.Vc Go.VrA Go.VrF
set_option maxRecDepth 100000
def Sto.bindR {σ : Type} (St : Sto σ) (s : σ) (b : Bi) : Int × σ :=
  if nameB b.ex = false∨nameB b.q = false then (23,s) else
  if b.kind < 1∨3 < b.kind then (11,s) else
  if rightB b.kind b.key = false then (24,s) else
  if (St.find s b.q).1.2≠0 then ((St.find s b.q).1.2,(St.find s b.q).2) else
  if St.mixed (St.find s b.q).2 b≠0 then (St.mixed (St.find s b.q).2 b,(St.find s b.q).2) else
  if (bindK b).2≠0 then ((bindK b).2,(St.find s b.q).2) else
  if (St.get (St.find s b.q).2 (bindK b).1).1.2.2≠0 then ((St.get (St.find s b.q).2 (bindK b).1).1.2.2,(St.get (St.find s b.q).2 (bindK b).1).2) else
  if (St.get (St.find s b.q).2 (bindK b).1).1.2.1 = true then (22,(St.get (St.find s b.q).2 (bindK b).1).2) else
  St.put (St.get (St.find s b.q).2 (bindK b).1).2 (bindK b).1 e0
noncomputable def c31r : CC:=subC c31 [1,1]
theorem c31_s : c31 = .seq (subC c31 [0]) (.seq (subC c31 [1,0]) c31r):=rfl
theorem bindR_c {σ : Type} (St : Sto σ) (s : σ) (b : Bi) (hpr : PureRng St (St.find s b.q).2) (m : Int) (w : World) (K : Value→World→Prop) (hAt : St.At s w) (hg : Gl m w) (h0 : 0 < w.heap.size) (hb : b.good) (hk40 : b.key.size < 2 ^ 40)
    (hv : (St.get s (queueK b.q).1).1.1.size < 2 ^ 60) (hf : St.fit (St.get (St.find s b.q).2 (bindK b).1).2)
    (h : ∀ w',Mod St.own w w'→St.At (St.bindR s b).2 w'→K (.int .i64 (St.bindR s b).1) w') :
    Ok Proofs.Tryz.prog 31 #[.iface St.t St.v,b.val] w K:=by
  refine F31.enter (args:=[.iface St.t St.v,b.val]) (by simp) ?_
  rw [c31_s]
  have hbv : b.val = .agg #[.string b.ex,.int .i64 b.kind,.string b.key,.string b.q]:=rfl
  have hfoot : ¬ St.foot w.heap.size:=fun x=>by have:=St.footLt s w _ hAt x; omega
  have hown : ¬ St.own w.heap.size:=fun x=>hfoot (St.ownFoot _ x)
  have rest : nameB b.ex = true→nameB b.q = true→1≤b.kind→b.kind≤3→rightB b.kind b.key = true→∀ w2 ρ,Mod (fun _=>False) w w2→w2.heap[w.heap.size]? = some (.cells #[.string b.ex,.int .i64 b.kind,.string b.key,.string b.q] 64 (0,0))→ρ 0 = .iface St.t St.v→ρ 3 = ptr w.heap.size →
      vc Proofs.Tryz.prog none 80 c31r (endQ Proofs.Tryz.prog [RV.tmp 4] K) ρ [] w2:=by
    intro n1 n2 n3 n4 n5 w2 ρ hm2 hb2 r0' r3'
    unfold Sto.bindR at h
    rw [if_neg (by rw [n1,n2]; simp),if_neg (by omega),if_neg (by rw [n5]; simp)] at h
    unfold c31r
    simp only [ZB,subC,c31,insVc,load1K,faddrK,ne_eq,Nat.reduceEqDiff,Zad,Zae,Za,Zaf,Zah,r0',r3',hb2]
    refine find_c St s b.q m w2 _ (St.keep0 hAt hm2) (hg.mod hm2 id) hb.2.2 hv ?_
    intro w3 hm3 hA3
    have hm03 : Mod St.own w w3:=(hm2.mono (fun _ _ x=>x.elim)).trans hm3
    have hb3:=hm3.keep hb2 hown
    revert h hA3 hf hpr
    generalize St.find s b.q = f
    intro hpr hf h hA3
    simp only [ZB,insVc,storeNK,setMany,iopK,iopV,extK,isPlain,Value.cells,ne_eq,Nat.reduceEqDiff,Nat.reduceAdd,Nat.reduceLeDiff,reduceCtorEq,Za,Zaf,Zah,Zak,Zai,Zaj,Zal,Zam,Zan,Zas,Zat,Zau,Zbg,Qu.val,Qu.cells]
    refine condP_gen ?_
    intro w4 hw4
    have hm4 : Mod (fun _=>False) w3 w4:=by rw [hw4]; exact ((Mod.refl _ _).alloc _).set (.inl (Nat.le_refl _))
    clear hw4
    have hb4:=hm4.keep hb3 id
    have hm04 : Mod St.own w w4:=hm03.trans (hm4.mono fun _ _ x=>x.elim)
    have hA4:=St.keep0 hA3 hm4
    refine condP_split ?_ ?_
    · intro he
      have he' : f.1.2≠0:=by simpa using he
      simp only [if_pos he'] at h
      simp only [ZB,endK,resK,packed,insVc,ne_eq,Nat.reduceEqDiff,Zaa]
      exact h w4 hm04 hA4
    intro he
    have he' : ¬ f.1.2≠0:=by simpa using he
    simp only [if_neg he'] at h
    have hms4:=hm04.size
    simp only [ZB,insVc,loadNK,ne_eq,Nat.reduceEqDiff,Nat.reduceAdd,Nat.reduceLeDiff,reduceCtorEq,Zad,Zae,Zak,Zai,Zaj,Zb,Zaz,Zav,Zar,Zay,Zaw,r0',r3',hb4]
    rw [← hbv]
    refine mixed_c St f.2 hpr b m w4 _ hA4 (hg.mod hm04 St.own0) (by omega) hb ?_
    intro w5 hm5
    have hb5:=hm5.keep hb4 id
    have hm05 : Mod St.own w w5:=hm04.trans (hm5.mono fun _ _ x=>x.elim)
    have hA5:=St.keep0 hA4 hm5
    simp only [ZB,insVc,iopK,iopV,reduceCtorEq]
    refine condP_split ?_ ?_
    · intro he
      have he' : St.mixed f.2 b≠0:=by simpa using he
      simp only [if_pos he'] at h
      simp only [ZB,endK,resK,packed,insVc,ne_eq,Nat.reduceEqDiff,Zaa]
      exact h w5 hm05 hA5
    intro he
    have he' : ¬ St.mixed f.2 b≠0:=by simpa using he
    simp only [if_neg he'] at h
    simp only [ZB,insVc,loadNK,ne_eq,Nat.reduceEqDiff,Nat.reduceAdd,Nat.reduceLeDiff,Zad,Zae,Zak,Zai,Zaj,Zb,Zaz,Zav,Zar,Zay,Zaw,r3',hb5]
    rw [← hbv]
    refine bind_c b m w5 _ (hg.mod hm05 St.own0) hb ?_
    intro w6 hm6
    have hm06 : Mod St.own w w6:=hm05.trans (hm6.mono fun _ _ x=>x.elim)
    have hA6:=St.keep0 hA5 hm6
    simp only [ZB,insVc,iopK,iopV,extK,ne_eq,Nat.reduceEqDiff,reduceCtorEq,Za,Zaf,Zah]
    refine condP_split ?_ ?_
    · intro he
      have he' : (bindK b).2≠0:=by simpa using he
      simp only [if_pos he'] at h
      simp only [ZB,endK,resK,packed,insVc,ne_eq,Nat.reduceEqDiff,Zaa]
      exact h w6 hm06 hA6
    intro he
    have he' : ¬ (bindK b).2≠0:=by simpa using he
    simp only [if_neg he'] at h
    simp only [ZB,insVc,invK,ne_eq,Nat.reduceEqDiff,reduceCtorEq,Zad,Zae,r0']
    refine St.getOk f.2 (bindK b).1 w6 _ hA6 (keyL_size _ _ (by simp)) ?_
    intro w7 hm7 hA7
    have hm07 : Mod St.own w w7:=hm06.trans hm7
    revert h hA7 hf
    generalize St.get f.2 (bindK b).1 = g
    intro hf h hA7
    simp only [ZB,insVc,iopK,iopV,extK,ne_eq,Nat.reduceEqDiff,reduceCtorEq,Za,Zaf,Zah]
    refine condP_split ?_ ?_
    · intro he
      have he' : g.1.2.2≠0:=by simpa using he
      simp only [if_pos he'] at h
      simp only [ZB,endK,resK,packed,insVc,ne_eq,Nat.reduceEqDiff,Zaa]
      exact h w7 hm07 hA7
    intro he
    have he' : ¬ g.1.2.2≠0:=by simpa using he
    simp only [if_neg he'] at h
    simp only [ZB,insVc,ne_eq,Nat.reduceEqDiff]
    refine condP_split ?_ ?_
    · intro he
      have he' : g.1.2.1 = true:=by simpa using he
      simp only [if_pos he'] at h
      simp only [ZB,endK,resK,packed,insVc,Zaa]
      exact h w7 hm07 hA7
    intro he
    have he' : ¬ g.1.2.1 = true:=by simpa using he
    simp only [if_neg he'] at h
    simp only [ZB,insVc,invK,ne_eq,Nat.reduceEqDiff,reduceCtorEq,Zad,Zae,r0']
    refine St.putOk g.2 (bindK b).1 e0 w7 _ hA7 hf ?_
    intro w8 hm8 hA8
    exact h w8 (hm07.trans hm8) hA8
  have bad : ∀ e : Int,St.bindR s b = (e,s)→∀ w2,Mod (fun _=>False) w w2→K (.int .i64 e) w2:=by
    intro e he w2 hm2
    rw [he] at h
    exact h w2 (hm2.mono fun _ _ x=>x.elim) (St.keep0 hAt hm2)
  clear h
  unfold r31
  simp only [ZB,subC,c31,insVc,load1K,faddrK,Value.cells,ne_eq,Nat.reduceEqDiff,Zab,Zad,Zae,Za,Zaf,Zah,Zbg,hbv]
  refine callK_gen ?_
  intro w0 hw0
  have hm0 : Mod (fun _=>False) w w0:=by rw [hw0]; exact (Mod.refl _ _).alloc _
  have hb0 : w0.heap[w.heap.size]? = some (.cells #[.string b.ex,.int .i64 b.kind,.string b.key,.string b.q] 64 (0,0)):=by rw [hw0]; exact get_alloc_new _ _
  clear hw0
  refine name_c b.ex w0 _ ?_
  intro w1 hm1
  have hb1:=hm1.keep hb0 id
  have hm01:=hm0.trans hm1
  cases hn : nameB b.ex with
  | false =>
    simp only [ZB,endK,resK,packed,insVc,pickK,notK,ne_eq,Nat.reduceEqDiff,Zaa,Zac]
    exact bad 23 (by unfold Sto.bindR; rw [if_pos (.inl hn)]) w1 hm01
  | true =>
    simp only [ZB,insVc,load1K,notK,faddrK,ne_eq,Nat.reduceEqDiff,Zad,Zae,Za,Zaf,Zah,hb1]
    refine name_c b.q w1 _ ?_
    intro w2 hm2
    have hb2:=hm2.keep hb1 id
    have hm02:=hm01.trans hm2
    cases hq : nameB b.q with
    | false =>
      simp only [ZB,endK,resK,packed,insVc,pickK,notK,ne_eq,Nat.reduceEqDiff,Zaa,Zag]
      exact bad 23 (by unfold Sto.bindR; rw [if_pos (.inr hq)]) w2 hm02
    | true =>
      have hun : St.bindR s b = if b.kind < 1∨3 < b.kind then (11,s) else
          if rightB b.kind b.key = false then (24,s) else
          if (St.find s b.q).1.2≠0 then ((St.find s b.q).1.2,(St.find s b.q).2) else
          if St.mixed (St.find s b.q).2 b≠0 then (St.mixed (St.find s b.q).2 b,(St.find s b.q).2) else
          if (bindK b).2≠0 then ((bindK b).2,(St.find s b.q).2) else
          if (St.get (St.find s b.q).2 (bindK b).1).1.2.2≠0 then ((St.get (St.find s b.q).2 (bindK b).1).1.2.2,(St.get (St.find s b.q).2 (bindK b).1).2) else
          if (St.get (St.find s b.q).2 (bindK b).1).1.2.1 = true then (22,(St.get (St.find s b.q).2 (bindK b).1).2) else
          St.put (St.get (St.find s b.q).2 (bindK b).1).2 (bindK b).1 e0:=by
        unfold Sto.bindR; rw [if_neg (by rw [hn,hq]; simp)]
      by_cases k1 : b.kind < 1
      · simp only [ZB,endK,resK,packed,insVc,pickK,load1K,iopK,iopV,notK,faddrK,ne_eq,Nat.reduceEqDiff,reduceCtorEq,Za,Zaf,Zah,Zaa,Zac,Zag,hb2,k1]
        exact bad 11 (by rw [hun,if_pos (.inl k1)]) w2 hm02
      by_cases k3 : (3 : Int) < b.kind
      · simp only [ZB,endK,resK,packed,insVc,pickK,load1K,iopK,iopV,notK,faddrK,ne_eq,Nat.reduceEqDiff,reduceCtorEq,Za,Zaf,Zah,Zaa,Zag,k1,hb2,k3]
        exact bad 11 (by rw [hun,if_pos (.inr k3)]) w2 hm02
      simp only [ZB,insVc,pickK,load1K,iopK,iopV,notK,faddrK,ne_eq,Nat.reduceEqDiff,reduceCtorEq,Zad,Zae,Za,Zaf,Zah,Zag,k1,k3,hb2]
      refine right_c b.kind b.key hk40 w2 _ ?_
      intro w3 hm3
      have hm03:=hm02.trans hm3
      have hb3:=hm3.keep hb2 id
      cases hr : rightB b.kind b.key with
      | false =>
        simp only [ZB,endK,resK,packed,insVc,notK,Zaa]
        exact bad 24 (by rw [hun,if_neg (by omega),if_pos hr]) w3 hm03
      | true =>
        simp only [ZB,insVc,notK]
        exact rest hn hq (by omega) (by omega) hr w3 _ hm03 hb3 (by simp only [ZB,ne_eq,reduceCtorEq,Zab,Za]) (by simp only [ZB,ne_eq,Nat.reduceEqDiff])
end Go.Oct
namespace Go.Oct
open Go Go.Vc Go.VrA Go.VrF
set_option maxRecDepth 100000
def routeL (key : ByteArray) : List (List UInt8)→Nat→List (Bi × Int)→List (List UInt8) × Int
  | P,n,[]=>if n = 0 then ([],21) else (P,0)
  | P,n,r :: l=>if r.2≠0 then ([],r.2) else routeL key (if fitsB r.1.kind r.1.key key then insL r.1.q.data.toList P else P) (n + 1) l
def Sto.routeR {σ : Type} (St : Sto σ) (s : σ) (ex key : ByteArray) : List (List UInt8) × Int :=
  if nameB ex = false then ([],23) else if keyW key = false then ([],4) else routeL key [] 0 (thingsB (St.under s ⟨#[98]⟩ [str ex]))
theorem c32_s1 : c32 = .seq (subC c32 [0]) (.seq (subC c32 [1,0]) (.seq (subC c32 [1,1,0]) (subC c32 [1,1,1]))):=rfl
theorem route1_c {σ : Type} (St : Sto σ) (s : σ) (hpr : PureRng St s) (ex key : ByteArray) (m : Int) (w : World) (K : Value→World→Prop) (hAt : St.At s w) (hg : Gl m w) (h0 : 0 < w.heap.size) (hne : emptyB ex = false) (hex : ex.size < 4294967281) (hk : key.size < 2 ^ 19)
    (hL : (thingsB (St.under s ⟨#[98]⟩ [str ex])).length < 2 ^ 20) (hx : ∀ r ∈ thingsB (St.under s ⟨#[98]⟩ [str ex]),r.1.key.size < 2 ^ 19)
    (h : ∀ w' v,Mod (fun _=>False) w w'→w'.ownsRow w.heap.size 9 1 v (St.routeR s ex key).1.length (stV (St.routeR s ex key).1)→K (.tuple #[v,.int .i64 (St.routeR s ex key).2]) w') :
    Ok Proofs.Tryz.prog 32 #[.iface St.t St.v,.string ex,.string key] w K:=by
  have hfoot : ∀ k,w.heap.size≤k→¬ St.foot k:=fun k hk x=>by have:=St.footLt s w _ hAt x; omega
  have hpair : ∀ {ww : World} {e : Int},Mod (fun _=>False) w ww→St.routeR s ex key = ([],e)→K (.tuple #[.slice none 0 0,.int .i64 e]) ww:=by
    intro ww e hm he
    have:=h ww (.slice none 0 0) hm (by rw [he]; exact World.ownsRow_nil _ _ _ 1)
    rw [he] at this; exact this
  refine VrA.F32.enter (args:=[.iface St.t St.v,.string ex,.string key]) (by simp) ?_
  rw [c32_s1]
  unfold VrA.r32
  have hee : (ex.toList == (⟨#[]⟩ : ByteArray).toList) = false:=hne
  simp only [ZB,subC,VrA.c32,insVc,sopK,sopV,Value.cells,ne_eq,Nat.reduceEqDiff,Nat.reduceAdd,Zab,Zad,Zae,Za,Zaf,Zaq,Nat.reduceAdd,Nat.reduceEqDiff,hee]
  refine callK_gen ?_
  intro w1 hw1
  have hm1 : Mod (fun _=>False) w w1:=by rw [hw1]; exact (((Mod.refl _ _).alloc _).alloc _).alloc _
  have kc1 : w1.heap[w.heap.size]? = some (.cells #[.string key] 9 (0,0)):=by rw [hw1]; simp only [Nat.reduceAdd,reduceCtorEq,Zac,Zag,size_alloc,get_alloc,size_alloc,Zaq,Nat.reduceAdd,Zbl,Zbi]
  have rc1 : w1.heap[w.heap.size + 1]? = some (.cells #[.slice none 0 0] 80 (0,0)):=by rw [hw1]; simp only [Nat.reduceEqDiff,Nat.reduceAdd,Zac,Zag,size_alloc,get_alloc,size_alloc,Zaq,Nat.reduceAdd,Zbm,Zbj,Nat.reduceEqDiff,Zbi]
  have ec1 : w1.heap[w.heap.size + 2]? = some (.cells #[.int .i64 0] 23 (0,0)):=by rw [hw1]; simp only [Nat.reduceEqDiff,Nat.reduceAdd,reduceCtorEq,Zac,Zag,size_alloc,get_alloc,size_alloc,Zaq,Nat.reduceAdd,Zbm,Zbj,Nat.reduceEqDiff]
  have hz1 : w1.heap.size = w.heap.size + 3:=by rw [hw1]; simp only [Nat.reduceAdd,size_alloc,size_alloc,Zaq,Nat.reduceAdd]
  clear hw1
  have early : ∀ (u : World) (e : Int),Mod (fun _=>False) w u→u.heap[w.heap.size + 1]? = some (.cells #[.slice none 0 0] 80 (0,0))→u.heap[w.heap.size + 2]? = some (.cells #[.int .i64 0] 23 (0,0))→St.routeR s ex key = ([],e) →
      ∃ u',u' = Vc.set (Vc.set u (w.heap.size + 1) (.cells #[.slice none 0 0] 80 (0,0))) (w.heap.size + 2) (.cells #[.int .i64 e] 23 (0,0))∧Mod (fun _=>False) w u'∧(Vc.set u (w.heap.size + 1) (.cells #[.slice none 0 0] 80 (0,0))).heap[w.heap.size + 2]? = some (.cells #[.int .i64 0] 23 (0,0))∧u'.heap[w.heap.size + 1]? = some (.cells #[.slice none 0 0] 80 (0,0))∧u'.heap[w.heap.size + 2]? = some (.cells #[.int .i64 e] 23 (0,0))∧K (.tuple #[.slice none 0 0,.int .i64 e]) u':=by
    intro u e hm k1 k2 he
    have hA : Mod (fun k=>k = w.heap.size + 1) u (Vc.set u (w.heap.size + 1) (.cells #[.slice none 0 0] 80 (0,0))):=(Mod.refl _ _).set (.inr rfl)
    have k2':=hA.keep k2 (by omega)
    have hm':=(hm.set (b:=w.heap.size + 1) (o:=.cells #[.slice none 0 0] 80 (0,0)) (.inl (by omega))).set (b:=w.heap.size + 2) (o:=.cells #[.int .i64 e] 23 (0,0)) (.inl (by omega))
    have hB : Mod (fun k=>k = w.heap.size + 2) (Vc.set u (w.heap.size + 1) (.cells #[.slice none 0 0] 80 (0,0))) (Vc.set (Vc.set u (w.heap.size + 1) (.cells #[.slice none 0 0] 80 (0,0))) (w.heap.size + 2) (.cells #[.int .i64 e] 23 (0,0))):=(Mod.refl _ _).set (.inr rfl)
    exact ⟨_,rfl,hm',k2',hB.keep (get_set_same _ _ _ (lt_of_get k1)) (by omega),get_set_same _ _ _ (lt_of_get k2'),hpair hm' he⟩
  refine name_c ex w1 _ ?_
  intro w2 hm2
  have hm02:=hm1.trans hm2
  have kc2:=hm2.keep kc1 id
  have rc2:=hm2.keep rc1 id
  have ec2:=hm2.keep ec1 id
  cases hn : nameB ex with
  | false =>
    obtain ⟨u',hu',x1,x2,x3,x4,x5⟩:=early w2 23 hm02 rc2 ec2 (by unfold Sto.routeR; rw [if_pos hn])
    simp only [ZB,endK,resK,res1,packed,insVc,storeK,notK,isPlain,ne_eq,Nat.reduceEqDiff,Nat.reduceLT,Nat.reduceLeDiff,Zak,Zai,Zaj,Zal,Zam,Zaa,Zap,Zao,rc2,x2]
    rw [← hu']
    simp only [x3,x4]
    exact x5
  | true =>
  simp only [ZB,insVc,load1K,notK,ne_eq,Nat.reduceEqDiff,Zad,Zae,Za,Zah,kc2]
  refine tkey_c key (by omega) w2 _ ?_
  intro w3 hm3
  have hm03:=hm02.trans hm3
  have kc3:=hm3.keep kc2 id
  have rc3:=hm3.keep rc2 id
  have ec3:=hm3.keep ec2 id
  cases hkw : keyW key with
  | false =>
    obtain ⟨u',hu',x1,x2,x3,x4,x5⟩:=early w3 4 hm03 rc3 ec3 (by unfold Sto.routeR; rw [if_neg (by rw [hn]; simp),if_pos hkw])
    simp only [ZB,endK,resK,res1,packed,insVc,storeK,notK,isPlain,ne_eq,Nat.reduceEqDiff,Nat.reduceLT,Nat.reduceLeDiff,Zak,Zai,Zaj,Zal,Zam,Zaa,Zap,Zao,rc3,x2]
    rw [← hu']
    simp only [x3,x4]
    exact x5
  | true =>
  have hR : St.routeR s ex key = routeL key [] 0 (thingsB (St.under s ⟨#[98]⟩ [str ex])):=by unfold Sto.routeR; rw [if_neg (by rw [hn]; simp),if_neg (by rw [hkw]; simp)]
  rw [hR] at h hpair early
  simp only [ZB,insVc,notK,Zad,Zae]
  refine poolof_c w3 _ ?_
  intro w4 hm4 hz4 hp4
  have hm04:=hm03.trans hm4
  have kc4:=hm4.keep kc3 id
  have rc4:=hm4.keep rc3 id
  have ec4:=hm4.keep ec3 id
  have hs2:=hm2.size
  have hs3:=hm3.size
  obtain ⟨pb,hpb⟩ : ∃ pb,pb = w3.heap.size:=⟨_,rfl⟩
  rw [← hpb] at hp4 hz4 ⊢
  simp only [ZB,insVc,storeK,isPlain,Value.cells,ne_eq,Nat.reduceEqDiff,Nat.reduceAdd,Nat.reduceLT,Nat.reduceLeDiff,reduceCtorEq,Zab,Zad,Zae,Za,Zaf,Zak,Zai,Zaj,Zal,Zam,Zac,Zag,Zao,get_alloc,get_set,Zaq,Nat.reduceAdd,Zbj,Zbl,Nat.reduceEqDiff,Zcg,Nat.reduceLT,Zbi]
  refine callK_gen ?_
  intro w5 hw5
  have hm5 : Mod (fun _=>False) w4 w5:=by rw [hw5]; exact ((((Mod.refl _ _).alloc _).alloc _).set (.inl (by omega))).set (.inl (by omega))
  have pc5 : w5.heap[w4.heap.size]? = some (.cells #[ptr pb] 174 (0,0)):=by rw [hw5]; simp only [Nat.reduceAdd,Nat.reduceLT,and_true,Zag,size_set,size_alloc,Zbe,Zao,get_set,size_alloc,size_set,Zaq,Nat.reduceAdd,Zbl,Zcg,Nat.reduceLT,Zbi]
  have nc5 : w5.heap[w4.heap.size + 1]? = some (.cells #[.int .i64 ((0 : Nat) : Int)] 3 (0,0)):=by rw [hw5]; simp only [Nat.reduceAdd,size_set,size_alloc,Zbe,Zao,size_alloc,size_set,Zaq,Nat.reduceAdd] <;> rfl
  have hz5 : w5.heap.size = w4.heap.size + 2:=by rw [hw5]; simp only [Nat.reduceAdd,size_set,size_alloc,size_alloc,size_set,Zaq,Nat.reduceAdd]
  clear hw5
  have hm05:=hm04.trans hm5
  refine bindings_c St s hpr ex m w5 _ hex ?_
  intro w6 gf cap hm6 it
  revert h hpair early it hL hx
  generalize thingsB (St.under s ⟨#[98]⟩ [str ex]) = L
  intro hL hx h hpair early it
  have hm06:=hm05.trans hm6
  have kc6:=hm6.keep (hm5.keep kc4 id) id
  have rc6:=hm6.keep (hm5.keep rc4 id) id
  have ec6:=hm6.keep (hm5.keep ec4 id) id
  have pc6:=hm6.keep pc5 id
  have nc6:=hm6.keep nc5 id
  have hp6:=(hp4.mod hm5 id (fun _ _=>id)).mod hm6 id (fun _ _=>id)
  have z6:=hm6.size
  obtain ⟨F,hFe⟩ : ∃ F : World→Prop,F = fun u=>St.At s u∧Gl m u∧Kept w5.heap.size w6 u:=⟨_,rfl⟩
  rw [← hFe] at it
  have hF0 : F w6:=by rw [hFe]; exact ⟨St.keep0 hAt hm06,hg.mod hm06 id,Kept.refl _ _⟩
  have hFs : ∀ (S : Nat→Prop) (a b : World),F a→Mod S a b→(∀ k,S k→(w.heap.size≤k∧k < w5.heap.size)∨w6.heap.size≤k)→F b:=by
    rw [hFe]
    rintro S a b ⟨f1,f2,f3⟩ hm hS
    exact ⟨St.keep S _ _ _ f1 hm (fun k _ hk=>hfoot k (by have:=hS k hk; omega)),f2.mod hm (fun x=>by have:=hS _ x; omega),f3.keep hm (fun k h1 h2 hk=>by have:=hS k hk; omega)⟩
  clear hFe
  generalize hB : w4.heap.size = B at *
  simp only [ZB]
  refine range_iter (by kernel_rfl) (by kernel_rfl) (by kernel_rfl) (gf:=gf) (cap:=cap) (by simp only [ZB]) it
    (fun i X u=>F u∧Mod (fun _=>False) w u∧u.heap[w.heap.size]? = some (.cells #[.string key] 9 (0,0))∧u.heap[w.heap.size + 1]? = some (.cells #[.slice none 0 0] 80 (0,0))∧u.heap[w.heap.size + 2]? = some (.cells #[.int .i64 0] 23 (0,0)) ∧
      u.heap[B]? = some (.cells #[ptr pb] 174 (0,0))∧u.heap[B + 1]? = some (.cells #[.int .i64 (i : Nat)] 3 (0,0)) ∧
      ∃ v P,PoolAt u pb w6.heap.size v P∧(∀ k,v.ownBlock = some k→¬ X k)∧P.length≤i∧routeL key [] 0 L = routeL key P i (L.drop i))
    (fun c X u=>c = .ret∧Mod (fun _=>False) w u∧(routeL key [] 0 L).1 = []∧u.heap[w.heap.size + 1]? = some (.cells #[.slice none 0 0] 80 (0,0))∧u.heap[w.heap.size + 2]? = some (.cells #[.int .i64 (routeL key [] 0 L).2] 23 (0,0))) ?_ ?_ ?_ ?_ ?_ ?_ ?_ ?_
  · intro X w' hm hsz hX
    refine ⟨hFs _ _ _ hF0 hm (fun _ x=>x.elim),hm06.trans hm,hm.keep kc6 id,hm.keep rc6 id,hm.keep ec6 id,hm.keep pc6 id,hm.keep nc6 id,.slice none 0 0,[], ?_,(fun k hk=>by cases hk),Nat.le_refl _,rfl⟩
    exact ⟨hm.keep hp6.1 id,World.ownsRow_nil _ _ _ 1,List.Pairwise.nil⟩
  · rintro i X u ⟨h1,_⟩
    exact h1
  · rintro i X X' a b ⟨h1,h2,h3,h4,h5,h6,h7,v,P,h8,h9,h10,h11⟩ hX ha hm hxx
    have hge : ∀ k,X k→w6.heap.size≤k:=fun k hk=>by have:=hX k hk; omega
    refine ⟨hFs X _ _ h1 hm (fun k hk=>.inr (hge k hk)),h2.then hm (fun i hi hk=>by have:=hge i hk; omega),hm.keep h3 (fun x=>by have:=hge _ x; omega),hm.keep h4 (fun x=>by have:=hge _ x; omega),hm.keep h5 (fun x=>by have:=hge _ x; omega),hm.keep h6 (fun x=>by have:=hge _ x; omega),hm.keep h7 (fun x=>by have:=hge _ x; omega),v,P,h8.mod hm (fun x=>by have:=hge _ x; omega) h9, ?_,h10,h11⟩
    intro k hk hx'
    rcases hxx k hx' with hx' | hx'
    · exact h9 k hk hx'
    · have:=(World.ownsRow.lt h8.2.1 k hk).2
      omega
  · rintro c X X' a b ⟨rfl,h1,h2,h3,h4⟩ hX ha hm hxx
    have hge : ∀ k,X k→w6.heap.size≤k:=fun k hk=>by have:=hX k hk; omega
    exact ⟨rfl,h1.then hm (fun i hi hk=>by have:=hge i hk; omega),h2,hm.keep h3 (fun x=>by have:=hge _ x; omega),hm.keep h4 (fun x=>by have:=hge _ x; omega)⟩
  · intro i hi
    rw [List.getElem?_eq_getElem hi]
    simp [biV]
  · intro i hi X a ⟨h1,h2,h3,h4,h5,h6,h7,v,P,h8,h9,h10,h11⟩ hX ha
    obtain ⟨r,hr⟩ : ∃ r,L[i]? = some r:=⟨L[i]'(by simpa [biV] using hi),List.getElem?_eq_getElem _⟩
    have hrow : ((biV L)[i]?.getD []) = [r.1.val,.int .i64 r.2]:=by simp [biV,hr]
    have hli : i < L.length:=by simpa [biV] using hi
    have hdrop : L.drop i = r :: L.drop (i + 1):=List.drop_eq_getElem?_toList_append.trans (by rw [hr]; rfl)
    clear h8 h9 h10 h11 h1 h2 h3 h4 h5 h6 h7
    rw [hrow]
    simp only [ZB,insVc,storeNK,setMany,iopK,iopV,isPlain,Value.cells,ne_eq,Nat.reduceEqDiff,Nat.reduceAdd,Nat.reduceLeDiff,reduceCtorEq,Zak,Zai,Zaj,Zal,Zam,Zan,Zas,Zat,Zau,Zbg,updMany,Bi.val,Bi.cells]
    refine ⟨((Mod.refl _ _).alloc _).set (.inl (Nat.le_refl _)), ?_⟩
    rintro c hmc ⟨k1,k2,k3,k4,k5,k6,k7,v,P,k8,k9,k10,k11⟩
    rw [hdrop] at k11
    have hxa : ¬ X a.heap.size:=fun x=>by have:=(hX _ x).2; omega
    have pC:=hmc.keep (get_set_same _ _ (.cells #[.string r.1.ex,.int .i64 r.1.kind,.string r.1.key,.string r.1.q] 64 (0,0)) (by rw [size_alloc]; omega)) hxa
    have hge : ∀ k,X k→w6.heap.size≤k∧k < c.heap.size:=fun k hk=>by have:=hX k hk; have:=hmc.size; simp only [size_set,size_alloc] at this; omega
    have hzc : a.heap.size < c.heap.size:=lt_of_get pC
    by_cases hr0 : r.2 = 0
    · have q0 : (r.2 != 0) = false:=by simpa using hr0
      have hwi : IntKind.i64.wrap ((i : Int) + 1) = ((i + 1 : Nat) : Int):=by rw [wrap_i64 _ (by omega)]; omega
      rw [routeL,if_neg (by simpa using hr0)] at k11
      have hA7 : Mod (fun k=>k = B + 1) c (Vc.set c (B + 1) (.cells #[.int .i64 ((i + 1 : Nat) : Int)] 3 (0,0))):=(Mod.refl _ _).set (.inr rfl)
      have p7:=hA7.keep pC (by omega)
      have k37:=hA7.keep k3 (by omega)
      have n7:=get_set_same c (B + 1) (.cells #[.int .i64 ((i + 1 : Nat) : Int)] 3 (0,0)) (lt_of_get k7)
      simp only [ZB,insVc,load1K,storeK,iopK,iopV,faddrK,isPlain,ne_eq,Nat.reduceEqDiff,Nat.reduceLT,Nat.reduceLeDiff,reduceCtorEq,Zad,Zae,Za,Zaf,Zah,Zak,Zai,Zaj,Zal,Zam,Zao,q0,k7,hwi,p7,k37]
      refine callK_gen ?_
      intro w7 hw7
      rw [← hw7] at hA7 p7 n7
      have k1':=hFs _ _ _ k1 hA7 (fun k hk=>.inl (by omega))
      have k2':=k2.then hA7 (fun k _ hk=>by omega)
      have k3':=hA7.keep k3 (by omega)
      have k4':=hA7.keep k4 (by omega)
      have k5':=hA7.keep k5 (by omega)
      have k6':=hA7.keep k6 (by omega)
      have hvB : ∀ k,v.ownBlock = some k→w6.heap.size≤k∧k < c.heap.size:=fun k hk=>World.ownsRow.lt k8.2.1 k hk
      have k8':=k8.mod hA7 (by omega) (fun k hk x=>by have:=hvB k hk; omega)
      have hs7:=hA7.size
      clear hw7
      refine fits88_c _ _ _ (hx r (List.mem_of_getElem? hr)) hk w7 _ ?_
      intro w8 hm8
      have hs8:=hm8.size
      have k1'':=hFs _ _ _ k1' hm8 (fun k hk=>hk.elim)
      have k2'':=k2'.trans hm8
      have k3'':=hm8.keep k3' id
      have k4'':=hm8.keep k4' id
      have k5'':=hm8.keep k5' id
      have k6'':=hm8.keep k6' id
      have n8:=hm8.keep n7 id
      have p8:=hm8.keep p7 id
      have k8'':=k8'.mod hm8 id (fun _ _=>id)
      have hA8 : Mod (fun k=>k = B + 1) c w8:=hA7.then hm8 (fun _ _ x=>x.elim)
      cases hfit : fitsB r.1.kind r.1.key key with
      | false =>
        rw [hfit] at k11
        simp only [ZB,reduceCtorEq]
        refine ⟨⟨hA8.size,fun k hk=>hA8.get k (hge k hk).2 (by have:=hge k hk; omega)⟩,.inl ⟨k1'',k2'',k3'',k4'',k5'',k6'',n8,v,P,k8'',k9,by omega, ?_⟩⟩
        simpa using k11
      | true =>
        rw [hfit] at k11
        simp only [ZB,insVc,load1K,faddrK,ne_eq,Nat.reduceEqDiff,Zad,Zae,Za,Zaf,Zah,k6'',p8]
        refine pooladd_c P r.1.q pb w6.heap.size v w8 _ k8'' (by omega) (by omega) ?_
        intro w9 v9 bb hm9 hp9 hb9
        have hs9:=hm9.size
        have hA9 : Mod (fun k=>k = B + 1∨k = pb∨v.ownBlock = some k) c w9:=(hA8.mono fun _ _ x=>.inl x).then hm9 (fun k _ x=>.inr x)
        have hno9 : ∀ k,(w.heap.size≤k∧k < w6.heap.size)→k≠pb→¬ (k = pb∨v.ownBlock = some k):=by
          rintro k hk hkp (x | x)
          · exact hkp x
          · have:=hvB k x; omega
        simp only [ZB,reduceCtorEq]
        refine ⟨⟨hA9.size,fun k hk=>hA9.get k (hge k hk).2 ?_⟩,.inl ⟨hFs _ _ _ k1'' hm9 ?_,k2''.then hm9 ?_,hm9.keep k3'' (hno9 _ (by omega) (by omega)),hm9.keep k4'' (hno9 _ (by omega) (by omega)),hm9.keep k5'' (hno9 _ (by omega) (by omega)),hm9.keep k6'' (hno9 _ (by omega) (by omega)),hm9.keep n8 (hno9 _ (by omega) (by omega)),v9,insL r.1.q.data.toList P,hp9, ?_, ?_, ?_⟩⟩
        · have:=hge k hk
          rintro (x | x | x)
          · omega
          · omega
          · exact k9 k x hk
        · rintro k (x | x)
          · exact .inl (by omega)
          · exact .inr (hvB k x).1
        · rintro k hk (x | x)
          · omega
          · have:=hvB k x; omega
        · intro k hk hxk
          rcases hb9 k hk with y | y
          · exact k9 k y hxk
          · have:=(hge k hxk).2; omega
        · have:=@insL_len r.1.q.data.toList P; omega
        · simpa using k11
    · have q0 : (r.2 != 0) = true:=by simpa using hr0
      rw [routeL,if_pos hr0] at k11
      have hA : Mod (fun k=>k = w.heap.size + 1) c (Vc.set c (w.heap.size + 1) (.cells #[.slice none 0 0] 80 (0,0))):=(Mod.refl _ _).set (.inr rfl)
      have k5':=hA.keep k5 (by omega)
      have hm':=(k2.set (b:=w.heap.size + 1) (o:=.cells #[.slice none 0 0] 80 (0,0)) (.inl (by omega))).set (b:=w.heap.size + 2) (o:=.cells #[.int .i64 r.2] 23 (0,0)) (.inl (by omega))
      have hB' : Mod (fun k=>k = w.heap.size + 2) (Vc.set c (w.heap.size + 1) (.cells #[.slice none 0 0] 80 (0,0))) (Vc.set (Vc.set c (w.heap.size + 1) (.cells #[.slice none 0 0] 80 (0,0))) (w.heap.size + 2) (.cells #[.int .i64 r.2] 23 (0,0))):=(Mod.refl _ _).set (.inr rfl)
      have hAB : Mod (fun k=>k = w.heap.size + 1∨k = w.heap.size + 2) c (Vc.set (Vc.set c (w.heap.size + 1) (.cells #[.slice none 0 0] 80 (0,0))) (w.heap.size + 2) (.cells #[.int .i64 r.2] 23 (0,0))):=(hA.mono fun _ _ x=>.inl x).trans (hB'.mono fun _ _ x=>.inr x)
      simp only [ZB,insVc,storeK,isPlain,ne_eq,Nat.reduceEqDiff,Nat.reduceLT,Nat.reduceLeDiff,reduceCtorEq,Zak,Zai,Zaj,Zal,Zam,Zao,q0,k4,k5']
      refine ⟨⟨Nat.le_refl _,fun k hk=>hAB.get k (hge k hk).2 (by have:=hge k hk; omega)⟩,.inr ⟨.ret,.inl rfl,rfl,hm',by rw [k11],hB'.keep (get_set_same _ _ _ (lt_of_get k4)) (by omega), ?_⟩⟩
      rw [k11]
      exact get_set_same _ _ _ (lt_of_get k5')
  · rintro X u ⟨h1,h2,h3,h4,h5,h6,h7,v,P,h8,h9,h10,h11⟩ ⟨d1,d2,d3⟩
    have hlen : (biV L).length = L.length:=by simp [biV]
    rw [hlen] at h7 h10 h11
    rw [List.drop_length,routeL] at h11
    by_cases hL0 : L.length = 0
    · rw [if_pos hL0] at h11
      have q0 : (((L.length : Nat) : Int) == 0) = true:=by rw [hL0]; rfl
      obtain ⟨u',hu',x1,x2,x3,x4,x5⟩:=early u 21 h2 h4 h5 h11
      have hAB : Mod (fun k=>k = w.heap.size + 1∨k = w.heap.size + 2) u u':=by rw [hu']; exact ((Mod.refl _ _).set (.inr (.inl rfl))).set (.inr (.inr rfl))
      have d1':=hAB.keep d1 (by omega)
      have hD : Mod (fun k=>k = w6.heap.size) u' (Vc.set u' w6.heap.size (.deferred none)):=(Mod.refl _ _).set (.inr rfl)
      have y3:=hD.keep x3 (by omega)
      have y4:=hD.keep x4 (by omega)
      simp only [ZB,endK,resK,res1,packed,insVc,load1K,storeK,iopK,iopV,isPlain,ne_eq,Nat.reduceEqDiff,Nat.reduceLT,Nat.reduceLeDiff,reduceCtorEq,Za,Zah,Zak,Zai,Zaj,Zal,Zam,Zaa,Zap,Zao,h7,q0,h4,x2]
      rw [← hu']
      simp only [markO,d1',y3,y4]
      exact hpair (x1.set (.inl (by omega))) h11
    · rw [if_neg hL0] at h11
      have q0 : (((L.length : Nat) : Int) == 0) = false:=by rw [beq_eq_false_iff_ne]; omega
      simp only [ZB,insVc,load1K,iopK,iopV,ne_eq,Nat.reduceEqDiff,reduceCtorEq,Zad,Zae,Za,Zah,h7,q0,h6]
      refine poolall_c pb w6.heap.size v P u _ h8 (by omega) ?_
      intro u1 c1 hm1' hp1 hc1 _
      simp only [ZB,insVc,Zad,Zae]
      refine poolcol_c pb w6.heap.size c1 v P u1 _ hp1 hc1 (by omega) ?_
      intro u2 v2 hm2' ho2
      have hmu:=hm1'.trans hm2'
      have k4:=hmu.keep h4 id
      have k5:=hmu.keep h5 id
      have kd:=hmu.keep d1 id
      have hsu:=hm1'.size
      have hpl:=own_plain ho2
      have hA : Mod (fun k=>k = w.heap.size + 1) u2 (Vc.set u2 (w.heap.size + 1) (.cells #[v2] 80 (0,0))):=(Mod.refl _ _).set (.inr rfl)
      have k5':=hA.keep k5 (by omega)
      obtain ⟨u3,hu3⟩ : ∃ u3,u3 = Vc.set (Vc.set u2 (w.heap.size + 1) (.cells #[v2] 80 (0,0))) (w.heap.size + 2) (.cells #[.int .i64 0] 23 (0,0)):=⟨_,rfl⟩
      have hAB : Mod (fun k=>k = w.heap.size + 1∨k = w.heap.size + 2) u2 u3:=by rw [hu3]; exact ((Mod.refl _ _).set (.inr (.inl rfl))).set (.inr (.inr rfl))
      have hB2 : Mod (fun k=>k = w.heap.size + 2) (Vc.set u2 (w.heap.size + 1) (.cells #[v2] 80 (0,0))) u3:=by rw [hu3]; exact (Mod.refl _ _).set (.inr rfl)
      have x4 : u3.heap[w.heap.size + 1]? = some (.cells #[v2] 80 (0,0)):=hB2.keep (get_set_same _ _ _ (lt_of_get k4)) (by omega)
      have x5 : u3.heap[w.heap.size + 2]? = some (.cells #[.int .i64 0] 23 (0,0)):=by rw [hu3]; exact get_set_same _ _ _ (lt_of_get k5')
      have d1':=hAB.keep kd (by omega)
      have hD : Mod (fun k=>k = w6.heap.size) u3 (Vc.set u3 w6.heap.size (.deferred none)):=(Mod.refl _ _).set (.inr rfl)
      have y4:=hD.keep x4 (by omega)
      have y5:=hD.keep x5 (by omega)
      have hall : Mod (fun k=>k = w.heap.size + 1∨k = w.heap.size + 2∨k = w6.heap.size) u2 (Vc.set u3 w6.heap.size (.deferred none)):=(hAB.mono fun _ _ x=>x.elim .inl (fun y=>.inr (.inl y))).trans (hD.mono fun _ _ x=>.inr (.inr x))
      simp only [ZB,endK,resK,res1,packed,insVc,storeK,isPlain,ne_eq,Nat.reduceEqDiff,Nat.reduceLT,Nat.reduceLeDiff,Zak,Zai,Zaj,Zal,Zam,Zaa,Zap,Zao,k4,k5']
      refine ⟨hpl, ?_⟩
      rw [← hu3]
      simp only [markO,d1',y4,y5]
      have hres:=h (Vc.set u3 w6.heap.size (.deferred none)) v2 ((h2.trans hmu).then hall (fun k _ hk=>by omega))
      rw [h11] at hres
      refine hres ?_
      have ho3:=own_mod ho2 hall (fun k hk x=>by have:=(World.ownsRow.lt ho2 k hk).1; omega)
      rcases ho3.2 with e | ⟨g,cp,cur,e1,e2,e3⟩
      · exact ⟨ho3.1,.inl e⟩
      · exact ⟨ho3.1,.inr ⟨g,cp,cur,e1,by omega,e3⟩⟩
  · rintro c X u ⟨rfl,h2,h3,h4,h5⟩ ⟨d1,d2,d3⟩
    have hm3:=h2.set (b:=w6.heap.size) (o:=.deferred none) (.inl (by omega))
    have hB' : Mod (fun k=>k = w6.heap.size) u (Vc.set u w6.heap.size (.deferred none)):=(Mod.refl _ _).set (.inr rfl)
    have h4':=hB'.keep h4 (by omega)
    have h5':=hB'.keep h5 (by omega)
    simp only [ZB,exitOf,endK,resK,res1,packed,ne_eq,Nat.reduceEqDiff,Zaa,Zap,markO,d1,h4',h5']
    have hpr':=hpair hm3 (Prod.ext h3 rfl)
    exact hpr'
end Go.Oct
namespace Go.Oct
open Go Go.Vc Go.VrA Go.VrF
set_option maxRecDepth 100000
def bErr : List (Bi × Int)→Int
  | []=>0
  | r :: l=>if r.2≠0 then r.2 else bErr l
def goneL (name : ByteArray) : List (Bi × Int)→List (List UInt8)
  | []=>[]
  | r :: l=>if (r.1.q.toList == name.toList) = true then (bindK r.1).1.data.toList :: goneL name l else goneL name l
theorem goneL_app (name : ByteArray) : ∀ a b : List (Bi × Int),goneL name (a ++ b) = goneL name a ++ goneL name b:=by
  intro a
  induction a with
  | nil=>intro b; rfl
  | cons r l ih =>
    intro b
    rw [List.cons_append,goneL,goneL,ih]
    split <;> simp
theorem goneL_len (name : ByteArray) : ∀ l : List (Bi × Int),(goneL name l).length≤l.length:=by
  intro l
  induction l with
  | nil=>exact Nat.le_refl _
  | cons r l ih=>rw [goneL]; split <;> simp only [Zai] <;> omega
theorem goneL_255 (name : ByteArray) : ∀ (l : List (Bi × Int)) k,k ∈ goneL name l→k.length≤255:=by
  intro l
  induction l with
  | nil=>intro k hk; cases hk
  | cons r l ih =>
    intro k hk
    rw [goneL] at hk
    split at hk
    · rcases List.mem_cons.1 hk with rfl | hk
      · have:=keyL_size (str ⟨#[98]⟩ :: bindP r.1) [] (by simp)
        rw [Array.length_toList]; exact this
      · exact ih k hk
    · exact ih k hk
def StoC.cuts {σ : Type} (St : StoC σ) : σ→List (List UInt8)→Int × σ
  | s,[]=>(0,s)
  | s,k :: l=>if (St.cut s ⟨k.toArray⟩).1.2≠0 then ((St.cut s ⟨k.toArray⟩).1.2,(St.cut s ⟨k.toArray⟩).2) else St.cuts (St.cut s ⟨k.toArray⟩).2 l
theorem cuts_cons {σ : Type} (St : StoC σ) (s : σ) (k : List UInt8) (l : List (List UInt8)) : St.cuts s (k :: l) = if (St.cut s ⟨k.toArray⟩).1.2≠0 then ((St.cut s ⟨k.toArray⟩).1.2,(St.cut s ⟨k.toArray⟩).2) else St.cuts (St.cut s ⟨k.toArray⟩).2 l:=rfl
def StoC.dropAt {σ : Type} (St : StoC σ) (s : σ) (name : ByteArray) (L : List (Bi × Int)) : Int × σ :=
  if bErr L≠0 then (bErr L,s) else St.cuts s (goneL name L ++ [(queueK name).1.data.toList])
def StoC.drop {σ : Type} (St : StoC σ) (s : σ) (name : ByteArray) : Int × σ :=
  if (St.find s name).1.2≠0 then ((St.find s name).1.2,(St.find s name).2) else St.dropAt (St.find s name).2 name (thingsB (St.under (St.find s name).2 ⟨#[98]⟩ []))
theorem drop_c {σ : Type} (St : StoC σ) (s : σ) (name : ByteArray) (hpr : PureRng St.toSto (St.find s name).2) (m : Int) (w : World) (K : Value→World→Prop) (hAt : St.At s w) (hg : Gl m w) (h0 : 0 < w.heap.size) (hs : name.size < 4294967281)
    (hv : (St.get s (queueK name).1).1.1.size < 2 ^ 60) (hL : (thingsB (St.under (St.find s name).2 ⟨#[98]⟩ [])).length < 2 ^ 19) (hx : ∀ r ∈ thingsB (St.under (St.find s name).2 ⟨#[98]⟩ []),r.1.good)
    (h : ∀ w',Mod St.own w w'→St.At (St.drop s name).2 w'→K (.int .i64 (St.drop s name).1) w') :
    Ok Proofs.Tryz.prog 30 #[.iface St.t St.v,.string name] w K:=by
  have hfoot : ∀ k,w.heap.size≤k→¬ St.foot k:=fun k hk x=>by have:=St.footLt s w _ hAt x; omega
  have hno : ∀ k,w.heap.size≤k→¬ St.own k:=fun k hk x=>hfoot k hk (St.ownFoot _ x)
  refine F30.enter (args:=[.iface St.t St.v,.string name]) (by simp) ?_
  unfold c30 r30
  simp only [ZB,insVc,load1K,Value.cells,ne_eq,Nat.reduceEqDiff,reduceCtorEq,Zab,Zad,Zae,Za,Zaf,Zah,Zac,Zag,get_alloc,Zbl,Nat.reduceEqDiff,Zbi]
  refine callK_gen ?_
  intro w1 hw1
  have hm1 : Mod (fun _=>False) w w1:=by rw [hw1]; exact ((Mod.refl _ _).alloc _).alloc _
  have nc1 : w1.heap[w.heap.size]? = some (.cells #[.string name] 9 (0,0)):=by rw [hw1]; simp only [Zac,Zag,size_alloc,get_alloc,size_alloc,Zbl,Zbi]
  have ec1 : w1.heap[w.heap.size + 1]? = some (.cells #[.int .i64 0] 23 (0,0)):=by rw [hw1]; simp only [Zac,Zag,size_alloc,get_alloc,size_alloc,Zbj,Zbi]
  have hz1 : w1.heap.size = w.heap.size + 2:=by rw [hw1]; simp only [Nat.reduceAdd,size_alloc,size_alloc,Zaq,Nat.reduceAdd]
  clear hw1
  refine find_c St.toSto s name m w1 _ (St.keep0 hAt hm1) (hg.mod hm1 id) hs hv ?_
  intro w2 hm2 hA2
  have hm02 : Mod St.own w w2:=(hm1.mono fun _ _ x=>x.elim).trans hm2
  have nc2:=hm2.keep nc1 (hno _ (Nat.le_refl _))
  have ec2:=hm2.keep ec1 (hno _ (by omega))
  have hz2:=hm2.size
  unfold StoC.drop at h
  revert h hA2 hpr hL hx
  generalize St.find s name = f
  obtain ⟨⟨fq,fe⟩,s1⟩:=f
  intro hpr hL hx h hA2
  simp only at hpr hL hx hA2 h
  simp only [ZB,insVc,storeNK,setMany,iopK,iopV,extK,isPlain,Value.cells,ne_eq,Nat.reduceEqDiff,Nat.reduceAdd,Nat.reduceLeDiff,reduceCtorEq,Za,Zaf,Zah,Zak,Zai,Zaj,Zal,Zam,Zan,Zas,Zat,Zau,Zbg,Qu.val,Qu.cells]
  refine condP_gen ?_
  intro w3 hw3
  have hm3 : Mod (fun _=>False) w2 w3:=by rw [hw3]; exact ((Mod.refl _ _).alloc _).set (.inl (Nat.le_refl _))
  have hz3 : w3.heap.size = w2.heap.size + 1:=by rw [hw3]; simp only [size_set,size_alloc]
  clear hw3
  have nc3:=hm3.keep nc2 id
  have ec3:=hm3.keep ec2 id
  have hm03 : Mod St.own w w3:=hm02.trans (hm3.mono fun _ _ x=>x.elim)
  have hA3:=St.keep0 hA2 hm3
  have fin : ∀ (u : World) (e : Int) (t : σ),Mod St.own w u→St.At t u→u.heap[w.heap.size + 1]? = some (.cells #[.int .i64 0] 23 (0,0)) →
      ∃ u',u' = Vc.set u (w.heap.size + 1) (.cells #[.int .i64 e] 23 (0,0))∧Mod St.own w u'∧St.At t u'∧u'.heap[w.heap.size + 1]? = some (.cells #[.int .i64 e] 23 (0,0))∧Mod (fun k=>k = w.heap.size + 1) u u':=by
    intro u e t hm hA hc
    have hA' : Mod (fun k=>k = w.heap.size + 1) u (Vc.set u (w.heap.size + 1) (.cells #[.int .i64 e] 23 (0,0))):=(Mod.refl _ _).set (.inr rfl)
    exact ⟨_,rfl,hm.set (.inl (by omega)),St.keep _ _ _ _ hA hA' (fun k _ hk=>hfoot k (by omega)),get_set_same _ _ _ (lt_of_get hc),hA'⟩
  by_cases hfe : fe = 0
  rotate_left
  · have q0 : (fe != 0) = true:=by simpa using hfe
    rw [if_pos hfe] at h
    obtain ⟨u',hu',x1,x2,x3,_⟩:=fin w3 fe s1 hm03 hA3 ec3
    simp only [ZB,endK,resK,res1,packed,insVc,storeK,isPlain,ne_eq,Nat.reduceEqDiff,Nat.reduceLT,Nat.reduceLeDiff,Zak,Zai,Zaj,Zal,Zam,Zaa,Zao,q0,ec3]
    rw [← hu']
    simp only [x3]
    exact h u' x1 x2
  have q0 : (fe != 0) = false:=by simpa using hfe
  rw [if_neg (by simpa using hfe)] at h
  simp only [ZB,insVc,Value.cells,ne_eq,reduceCtorEq,Zab,Zad,Zae,Za,q0]
  refine callK_gen ?_
  intro w4 hw4
  have hm4 : Mod (fun _=>False) w3 w4:=by rw [hw4]; exact (Mod.refl _ _).alloc _
  have gc4 : w4.heap[w3.heap.size]? = some (.cells #[.slice none 0 0] 80 (0,0)):=by rw [hw4]; simp only [Zac,get_alloc]
  have hz4 : w4.heap.size = w3.heap.size + 1:=by rw [hw4]; simp only [size_alloc]
  clear hw4
  have nc4:=hm4.keep nc3 id
  have ec4:=hm4.keep ec3 id
  have hm04 : Mod St.own w w4:=hm03.trans (hm4.mono fun _ _ x=>x.elim)
  have hA4:=St.keep0 hA3 hm4
  refine thingsB_c St.toSto s1 hpr ⟨#[98]⟩ [] (.slice none 0 0) m w4 _ ⟨_,_,_,rfl⟩ (by simp) (by decide) (fun _ h=>by cases h) ?_
  intro w5 gf cap hm5 it
  revert h it hL hx
  generalize thingsB (St.under s1 ⟨#[98]⟩ []) = L
  intro hL hx h it
  have nc5:=hm5.keep nc4 id
  have ec5:=hm5.keep ec4 id
  have gc5:=hm5.keep gc4 id
  have hm05 : Mod St.own w w5:=hm04.trans (hm5.mono fun _ _ x=>x.elim)
  have hA5:=St.keep0 hA4 hm5
  have z5:=hm5.size
  obtain ⟨F,hFe⟩ : ∃ F : World→Prop,F = fun u=>St.At s1 u∧Gl m u∧IsArg u (.slice none 0 0) []∧Kept w4.heap.size w5 u:=⟨_,rfl⟩
  rw [← hFe] at it
  have hF0 : F w5:=by rw [hFe]; exact ⟨hA5,hg.mod hm05 St.own0,.inl ⟨rfl,_,rfl⟩,Kept.refl _ _⟩
  have hFA : ∀ u,F u→St.At s1 u:=by rw [hFe]; exact fun u x=>x.1
  have hFs : ∀ (S : Nat→Prop) (a b : World),F a→Mod S a b→(∀ k,S k→(w.heap.size≤k∧k < w4.heap.size)∨w5.heap.size≤k)→F b:=by
    rw [hFe]
    rintro S a b ⟨f1,f2,f4,f3⟩ hm hS
    exact ⟨St.keep S _ _ _ f1 hm (fun k _ hk=>hfoot k (by have:=hS k hk; omega)),f2.mod hm (fun x=>by have:=hS _ x; omega),.inl ⟨rfl,_,rfl⟩,f3.keep hm (fun k h1 h2 hk=>by have:=hS k hk; omega)⟩
  clear hFe
  generalize hG : w3.heap.size = G at *
  simp only [ZB]
  refine range_iter (by kernel_rfl) (by kernel_rfl) (by kernel_rfl) (gf:=gf) (cap:=cap) (by simp only [ZB]) it
    (fun i X u=>F u∧Mod St.own w u∧u.heap[w.heap.size]? = some (.cells #[.string name] 9 (0,0))∧u.heap[w.heap.size + 1]? = some (.cells #[.int .i64 0] 23 (0,0))∧bErr L = bErr (L.drop i) ∧
      ∃ v,u.heap[G]? = some (.cells #[v] 80 (0,0))∧u.ownsRow w5.heap.size 9 1 v (goneL name (L.take i)).length (stV (goneL name (L.take i)))∧(∀ k,v.ownBlock = some k→¬ X k))
    (fun c X u=>c = .ret∧St.At s1 u∧Mod St.own w u∧u.heap[w.heap.size + 1]? = some (.cells #[.int .i64 (bErr L)] 23 (0,0))∧bErr L≠0) ?_ ?_ ?_ ?_ ?_ ?_ ?_ ?_
  · intro X w' hm hsz hX
    exact ⟨hFs _ _ _ hF0 hm (fun _ x=>x.elim),hm05.trans (hm.mono fun _ _ x=>x.elim),hm.keep nc5 id,hm.keep ec5 id,rfl,.slice none 0 0,hm.keep gc5 id,World.ownsRow_nil _ _ _ 1,(fun k hk=>by cases hk)⟩
  · rintro i X u ⟨h1,_⟩
    exact h1
  · rintro i X X' a b ⟨h1,h2,h3,h4,h5,v,h6,h7,h8⟩ hX ha hm hxx
    have hge : ∀ k,X k→w5.heap.size≤k:=fun k hk=>by have:=hX k hk; omega
    refine ⟨hFs X _ _ h1 hm (fun k hk=>.inr (hge k hk)),h2.then hm (fun i hi hk=>by have:=hge i hk; omega),hm.keep h3 (fun x=>by have:=hge _ x; omega),hm.keep h4 (fun x=>by have:=hge _ x; omega),h5,v,hm.keep h6 (fun x=>by have:=hge _ x; omega),own_mod h7 hm h8, ?_⟩
    intro k hk hx'
    rcases hxx k hx' with hx' | hx'
    · exact h8 k hk hx'
    · have:=(World.ownsRow.lt h7 k hk).2
      omega
  · rintro c X X' a b ⟨rfl,h1,h2,h3,h4⟩ hX ha hm hxx
    have hge : ∀ k,X k→w5.heap.size≤k:=fun k hk=>by have:=hX k hk; omega
    exact ⟨rfl,St.keep X _ _ _ h1 hm (fun k _ hk=>hfoot k (by have:=hge k hk; omega)),h2.then hm (fun i hi hk=>by have:=hge i hk; omega),hm.keep h3 (fun x=>by have:=hge _ x; omega),h4⟩
  · intro i hi
    rw [List.getElem?_eq_getElem hi]
    simp [biV]
  · intro i hi X a ⟨h1,h2,h3,h4,h5,v,h6,h7,h8⟩ hX ha
    obtain ⟨r,hr⟩ : ∃ r,L[i]? = some r:=⟨L[i]'(by simpa [biV] using hi),List.getElem?_eq_getElem _⟩
    have hrow : ((biV L)[i]?.getD []) = [r.1.val,.int .i64 r.2]:=by simp [biV,hr]
    have hli : i < L.length:=by simpa [biV] using hi
    have hdrop : L.drop i = r :: L.drop (i + 1):=List.drop_eq_getElem?_toList_append.trans (by rw [hr]; rfl)
    have htk : L.take (i + 1) = L.take i ++ [r]:=by rw [List.take_add_one,hr]; rfl
    have hgt : goneL name (L.take (i + 1)) = goneL name (L.take i) ++ goneL name [r]:=by rw [htk,goneL_app]
    clear h1 h2 h3 h4 h6 h7 h8
    rw [hdrop] at h5
    rw [hrow]
    simp only [ZB,insVc,storeNK,setMany,iopK,iopV,isPlain,Value.cells,ne_eq,Nat.reduceEqDiff,Nat.reduceAdd,Nat.reduceLeDiff,reduceCtorEq,Zak,Zai,Zaj,Zal,Zam,Zan,Zas,Zat,Zau,Zbg,updMany,Bi.val,Bi.cells]
    refine ⟨((Mod.refl _ _).alloc _).set (.inl (Nat.le_refl _)), ?_⟩
    rintro c hmc ⟨k1,k2,k3,k4,_,v',k6,k7,k8⟩
    have hxa : ¬ X a.heap.size:=fun x=>by have:=(hX _ x).2; omega
    have pC:=hmc.keep (get_set_same _ _ (.cells #[.string r.1.ex,.int .i64 r.1.kind,.string r.1.key,.string r.1.q] 64 (0,0)) (by rw [size_alloc]; omega)) hxa
    have hge : ∀ k,X k→w5.heap.size≤k∧k < c.heap.size:=fun k hk=>by have:=hX k hk; have:=hmc.size; simp only [size_set,size_alloc] at this; omega
    have hzc : a.heap.size < c.heap.size:=lt_of_get pC
    by_cases hr0 : r.2 = 0
    · have q0 : (r.2 != 0) = false:=by simpa using hr0
      rw [bErr,if_neg (by simpa using hr0)] at h5
      by_cases hq : (r.1.q.toList == name.toList) = true
      · have hgr : goneL name [r] = [(bindK r.1).1.data.toList]:=by rw [goneL,if_pos hq]; rfl
        simp only [ZB,insVc,load1K,loadNK,sopK,sopV,faddrK,ne_eq,Nat.reduceEqDiff,Nat.reduceAdd,Nat.reduceLeDiff,Zad,Zae,Za,Zaf,Zah,Zak,Zai,Zaj,Zb,Zaz,Zav,Zar,Zay,Zaw,q0,pC,k3,hq]
        have hbv : Value.agg #[.string r.1.ex,.int .i64 r.1.kind,.string r.1.key,.string r.1.q] = r.1.val:=rfl
        rw [hbv]
        refine bind_c r.1 m c _ (hg.mod k2 St.own0) (hx r (List.mem_of_getElem? hr)) ?_
        intro c1 hmc1
        have hob : ∀ k,v'.ownBlock = some k→w5.heap.size≤k∧k < c.heap.size:=fun k hk=>World.ownsRow.lt k7 k hk
        have hgl:=goneL_len name (L.take i)
        rw [List.length_take] at hgl
        have hzc1:=hmc1.size
        obtain ⟨v5,w6,hr5,ho5,hm6,hb5⟩:=append_st w5.heap.size v' (goneL name (L.take i)).length _ (bindK r.1).1 c1 (own_mod k7 hmc1 (fun _ _=>id)) (by omega) (by omega) 80
        have k6':=hmc1.keep k6 id
        simp only [ZB,insVc,load1K,extK,fillL,buildSK,Value.cells,ne_eq,Nat.reduceEqDiff,Nat.reduceLeDiff,Za,Zaf,Zah,Zak,Zai,Zaj,Zbc,Zbd,Zba,Zbb,Zal,Zam,Zbf,Zac,k6']
        refine rawK_append rfl rfl rfl (by simp only [ZB,ne_eq,Nat.reduceEqDiff]; exact hr5) ?_
        have hmc6 : Mod (fun k=>v'.ownBlock = some k) c w6:=(hmc1.mono fun _ _ x=>x.elim).trans hm6
        have k3'':=hmc6.keep k3 (fun x=>by have:=hob _ x; omega)
        have k4'':=hmc6.keep k4 (fun x=>by have:=hob _ x; omega)
        have k6'':=hmc6.keep k6 (fun x=>by have:=hob _ x; omega)
        have hms:=hmc6.size
        have hm7 : Mod (fun k=>k = G) w6 (Vc.set w6 G (.cells #[v5] 80 (0,0))):=(Mod.refl _ _).set (.inr rfl)
        have hmc7 : Mod (fun k=>v'.ownBlock = some k∨k = G) c (Vc.set w6 G (.cells #[v5] 80 (0,0))):=(hmc6.mono fun _ _ x=>.inl x).then hm7 (fun k _ hk=>.inr hk)
        simp only [ZB,insVc,storeK,isPlain,ne_eq,Nat.reduceEqDiff,Nat.reduceLT,Nat.reduceLeDiff,reduceCtorEq,Zak,Zai,Zaj,Zal,Zam,Zao,k6'']
        refine ⟨own_plain ho5,⟨hms, ?_⟩,.inl ⟨hFs _ _ _ k1 hmc7 ?_,k2.then hmc7 ?_,hm7.keep k3'' (by omega),hm7.keep k4'' (by omega),h5,v5,get_set_same _ _ _ (lt_of_get k6''), ?_, ?_⟩⟩
        · intro k hk
          exact hmc7.get k (hge k hk).2 (by rintro (x | x); exact k8 k x hk; have:=hge k hk; omega)
        · rintro k (x | x)
          · have:=hob k x; omega
          · omega
        · rintro k hk (x | x)
          · have:=hob k x; omega
          · omega
        · rw [hgt,hgr]
          have e1 : stV (goneL name (L.take i) ++ [(bindK r.1).1.data.toList]) = stV (goneL name (L.take i)) ++ [.string (bindK r.1).1]:=by simp [stV]
          rw [e1,List.length_append]
          refine own_mod ho5 hm7 ?_
          intro k hk x
          rcases hb5 k hk with y | y
          · have:=hob k y; omega
          · omega
        · intro k hk hxk
          rcases hb5 k hk with y | y
          · exact k8 k y hxk
          · have:=hge k hxk; omega
      · have q1 : (r.1.q.toList == name.toList) = false:=by simpa using hq
        have hgr : goneL name [r] = []:=by rw [goneL,if_neg hq]; rfl
        rw [hgr,List.append_nil] at hgt
        simp only [ZB,insVc,load1K,sopK,sopV,faddrK,ne_eq,Nat.reduceEqDiff,reduceCtorEq,Za,Zaf,Zah,q0,pC,k3,q1]
        refine ⟨⟨Nat.le_refl _,fun _ _=>trivial⟩,.inl ⟨k1,k2,k4,h5,v',k6, ?_,k8⟩⟩
        rw [hgt]; exact k7
    · have q0 : (r.2 != 0) = true:=by simpa using hr0
      rw [bErr,if_pos hr0] at h5
      obtain ⟨u',hu',x1,x2,x3,x4⟩:=fin c r.2 s1 k2 (hFA _ k1) k4
      simp only [ZB,insVc,storeK,isPlain,ne_eq,Nat.reduceEqDiff,Nat.reduceLT,Nat.reduceLeDiff,reduceCtorEq,Zak,Zai,Zaj,Zal,Zam,Zao,q0,k4]
      rw [← hu']
      refine ⟨⟨Nat.le_refl _,fun k hk=>x4.get k (hge k hk).2 (by have:=hge k hk; omega)⟩,.inr ⟨.ret,.inl rfl,rfl,x2,x1,by rw [h5]; exact x3,by rw [h5]; exact hr0⟩⟩
  · rintro X u ⟨h1,h2,h3,h4,h5,v,h6,h7,h8⟩ ⟨d1,d2,d3⟩
    have hlen : (biV L).length = L.length:=by simp [biV]
    rw [hlen,List.take_length] at h7
    rw [hlen,List.drop_length] at h5
    have h5' : bErr L = 0:=h5
    unfold StoC.dropAt at h
    rw [if_neg (by simpa using h5')] at h
    have hob : ∀ k,v.ownBlock = some k→w5.heap.size≤k∧k < u.heap.size:=fun k hk=>World.ownsRow.lt h7 k hk
    have hAu:=hFA u h1
    have hgl:=goneL_len name L
    simp only [ZB,insVc,load1K,ne_eq,Nat.reduceEqDiff,Zad,Zae,Za,Zah,h3]
    refine queue_c name m u _ (hg.mod h2 St.own0) hs ?_
    intro u1 hu1
    have hu1s:=hu1.size
    obtain ⟨v5,u2,hr5,ho5,hm6,hb5⟩:=append_st w5.heap.size v (goneL name L).length _ (queueK name).1 u1 (own_mod h7 hu1 (fun _ _=>id)) (by omega) (by omega) 80
    have h6':=hu1.keep h6 id
    simp only [ZB,insVc,load1K,extK,fillL,buildSK,Value.cells,ne_eq,Nat.reduceEqDiff,Nat.reduceLeDiff,Za,Zaf,Zah,Zak,Zai,Zaj,Zbc,Zbd,Zba,Zbb,Zal,Zam,Zbf,Zac,h6']
    refine rawK_append rfl rfl rfl (by simp only [ZB,ne_eq,Nat.reduceEqDiff]; exact hr5) ?_
    have hmu2 : Mod (fun k=>v.ownBlock = some k) u u2:=(hu1.mono fun _ _ x=>x.elim).trans hm6
    have e4:=hmu2.keep h4 (fun x=>by have:=hob _ x; omega)
    have hvD : ¬ v.ownBlock = some w5.heap.size:=by
      intro hk
      rcases h7.2 with ⟨rfl,_⟩ | ⟨g,cap,cur,rfl,_,hgg,_⟩
      · cases hk
      · have : g = w5.heap.size:=Option.some.inj hk
        rw [this,d1] at hgg; cases hgg
    have ed:=hmu2.keep d1 hvD
    have hmw2 : Mod St.own w u2:=h2.then hmu2 (fun k hk x=>by have:=hob _ x; omega)
    have hA2' : St.At s1 u2:=St.keep _ _ _ _ hAu hmu2 (fun k _ hk=>hfoot k (by have:=hob _ hk; omega))
    have e1 : stV (goneL name L) ++ [.string (queueK name).1] = stV (goneL name L ++ [(queueK name).1.data.toList]):=by simp [stV]
    rw [e1] at ho5
    have hQ255 : ∀ k,k ∈ goneL name L ++ [(queueK name).1.data.toList]→k.length≤255:=by
      intro k hk
      rcases List.mem_append.1 hk with hk | hk
      · exact goneL_255 name L k hk
      · rw [List.mem_singleton.1 hk,Array.length_toList]
        exact keyL_size _ _ (by simp)
    obtain ⟨Q,hQ⟩ : ∃ Q,Q = goneL name L ++ [(queueK name).1.data.toList]:=⟨_,rfl⟩
    have hQn : (goneL name L).length + 1 = Q.length:=by rw [hQ,List.length_append]; rfl
    rw [← hQ] at ho5 hQ255 h
    rw [hQn] at ho5
    have hQl : Q.length < 2 ^ 20:=by omega
    have hsl : IsSl u2 v5 (stV Q):=IsSl.own (by rw [stV_len]; exact ho5)
    have hob5 : ∀ k,v5.ownBlock = some k→w5.heap.size≤k:=fun k hk=>(World.ownsRow.lt ho5 k hk).1
    clear hQ hQn e1 hr5
    obtain ⟨⟨va,vc,rfl⟩,hat⟩:=hsl
    rw [stV_len] at hat ⊢
    simp only [ZB,insVc,lenLK]
    refine vc_loop (fun mm ρ ds z => ∃ i si,i≤Q.length∧mm = Q.length - i∧ds = [markD w5.heap.size]∧ρ 0 = .iface St.t St.v∧ρ 4 = .pointer (some ⟨w.heap.size + 1,0,none⟩) ∧
      ρ 55 = .slice va Q.length vc∧ρ 56 = .int .i64 Q.length∧ρ 57 = .int .i64 i∧Mod St.own u2 z∧St.At si z∧St.cuts s1 Q = St.cuts si (Q.drop i)) (Q.length - 0) ?_ ?_
    · exact ⟨0,s1,Nat.zero_le _,rfl,rfl,by simp only [ZB,ne_eq,reduceCtorEq,Zab,Za],by simp only [ZB,ne_eq,Nat.reduceEqDiff],by simp only [ZB,ne_eq,Nat.reduceEqDiff],by simp only [ZB,ne_eq,Nat.reduceEqDiff],by simp only [ZB] <;> rfl,Mod.refl _ _,hA2',by simp⟩
    · rintro mm ρ ds z ⟨i,si,hi,rfl,rfl,r0,r4,r55,r56,r57,hmz,hAz,hcut⟩
      have z4:=hmz.keep e4 (hno _ (by omega))
      have zd:=hmz.keep ed (hno _ (by omega))
      have hmwz : Mod St.own w z:=hmw2.trans hmz
      by_cases c1 : i < Q.length
      · have d1' : (i : Int) < ((Q.length : Nat) : Int):=by omega
        obtain ⟨q,hqi⟩ : ∃ q,Q[i]? = some q:=⟨Q[i],List.getElem?_eq_getElem c1⟩
        obtain ⟨b,o,c,cur,t,f',he,hb,hcu⟩:=hat i (.string ⟨q.toArray⟩) (by simp [stV,hqi])
        have ha' : va = some ⟨b,o,none⟩:=by simpa using congrArg (fun x=>match x with | .slice a _ _=>a | _=>none) he
        subst ha'
        have hbw:=hob5 b rfl
        have hbz:=hmz.keep hb (hno _ (by omega))
        have hi0 : (0 : Int)≤(i : Int):=by omega
        have hw1 : IntKind.i64.wrap ((i : Int) + 1) = ((i + 1 : Nat) : Int):=by rw [wrap_i64 _ (by omega)]; omega
        have hdrop : Q.drop i = q :: Q.drop (i + 1):=List.drop_eq_getElem?_toList_append.trans (by rw [hqi]; rfl)
        rw [hdrop,cuts_cons] at hcut
        simp only [ZB,insVc,load1K,iopK,iopV,iaddrK,invK,ne_eq,Nat.reduceEqDiff,reduceCtorEq,Zad,Zae,Zax,Zbh,r0,r55,r56,r57,d1',hi0,hbz,hcu]
        refine St.cutOk si ⟨q.toArray⟩ z _ hAz (by have:=hQ255 q (List.mem_of_getElem? hqi); simpa [ByteArray.size] using this) ?_
        intro z2 hmz2 hAz2
        have y4:=hmz2.keep z4 (hno _ (by omega))
        have yd:=hmz2.keep zd (hno _ (by omega))
        simp only [ZB,insVc,iopK,iopV,extK,ne_eq,Nat.reduceEqDiff,reduceCtorEq,Za,Zaf,Zah]
        by_cases hc0 : (St.cut si ⟨q.toArray⟩).1.2 = 0
        · have b0 : ((St.cut si ⟨q.toArray⟩).1.2 != 0) = false:=by simpa using hc0
          rw [if_neg (by simpa using hc0)] at hcut
          simp only [ZB,insVc,iopK,iopV,ne_eq,Nat.reduceEqDiff,reduceCtorEq,b0,r0,r4,r55,r56,r57,hw1]
          exact ⟨Q.length - (i + 1),by omega,i + 1,(St.cut si ⟨q.toArray⟩).2,by omega,rfl,rfl,hmz.trans hmz2,hAz2,hcut⟩
        · have b0 : ((St.cut si ⟨q.toArray⟩).1.2 != 0) = true:=by simpa using hc0
          rw [if_pos hc0] at hcut
          rw [hcut] at h
          obtain ⟨u',hu',x1,x2,x3,x4⟩:=fin z2 (St.cut si ⟨q.toArray⟩).1.2 _ (hmwz.trans hmz2) hAz2 y4
          have yd':=x4.keep yd (by omega)
          have hB' : Mod (fun k=>k = w5.heap.size) u' (Vc.set u' w5.heap.size (.deferred none)):=(Mod.refl _ _).set (.inr rfl)
          simp only [ZB,endK,resK,res1,packed,insVc,storeK,isPlain,ne_eq,Nat.reduceEqDiff,Nat.reduceLT,Nat.reduceLeDiff,Zak,Zai,Zaj,Zal,Zam,Zaa,Zao,b0,r4,y4]
          rw [← hu']
          simp only [markO,yd',hB'.keep x3 (by omega)]
          exact h _ (x1.set (.inl (by omega))) (St.keep _ _ _ _ x2 hB' (fun k _ hk=>hfoot k (by omega)))
      · have d1' : ¬ (i : Int) < ((Q.length : Nat) : Int):=by omega
        have hie : i = Q.length:=by omega
        rw [hie,List.drop_length] at hcut
        have hcut' : St.cuts s1 Q = (0,si):=hcut
        rw [hcut'] at h
        obtain ⟨u',hu',x1,x2,x3,x4⟩:=fin z 0 _ hmwz hAz z4
        have yd':=x4.keep zd (by omega)
        have hB' : Mod (fun k=>k = w5.heap.size) u' (Vc.set u' w5.heap.size (.deferred none)):=(Mod.refl _ _).set (.inr rfl)
        simp only [ZB,endK,resK,res1,packed,insVc,storeK,iopK,iopV,isPlain,ne_eq,Nat.reduceEqDiff,Nat.reduceLT,Nat.reduceLeDiff,reduceCtorEq,Zak,Zai,Zaj,Zal,Zam,Zaa,Zao,r4,r56,r57,d1',z4]
        rw [← hu']
        simp only [markO,yd',hB'.keep x3 (by omega)]
        exact h _ (x1.set (.inl (by omega))) (St.keep _ _ _ _ x2 hB' (fun k _ hk=>hfoot k (by omega)))
  · rintro c X u ⟨rfl,h1,h2,h3,h4⟩ ⟨d1,d2,d3⟩
    have hB' : Mod (fun k=>k = w5.heap.size) u (Vc.set u w5.heap.size (.deferred none)):=(Mod.refl _ _).set (.inr rfl)
    have h3':=hB'.keep h3 (by omega)
    unfold StoC.dropAt at h
    rw [if_pos h4] at h
    simp only [ZB,exitOf,endK,resK,res1,packed,ne_eq,Nat.reduceEqDiff,Zaa,markO,d1,h3']
    exact h _ (h2.set (.inl (by omega))) (St.keep _ _ _ _ h1 hB' (fun k _ hk=>hfoot k (by omega)))
end Go.Oct
