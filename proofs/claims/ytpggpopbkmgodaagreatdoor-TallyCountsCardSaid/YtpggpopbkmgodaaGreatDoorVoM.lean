import Derived.Test.YtpggpopbkmgodaaGreatDoorVcP
import Derived.Test.YtpggpopbkmgodaaGreatDoorTryzIter
set_option linter.unusedSimpArgs false
set_option linter.unusedVariables false
set_option linter.unusedSectionVars false
set_option linter.unnecessarySimpa false
namespace Go.Oct
open Go Go.Vc Go.VrA Go.Proofs.Tryz
set_option maxRecDepth 100000
abbrev Pr:=(List UInt8 × List UInt8) × Int
def rowsV (l:List Pr):List (List Value):=l.map fun r=>[.agg #[.string ⟨r.1.1.toArray⟩,.string ⟨r.1.2.toArray⟩],.int .i64 r.2]
def okRows (m:M):List Pr:=m.map fun p=>(p,0)
theorem rowsV_ok (m:M):rowsV (okRows m)=m.map fun p=>[.agg #[.string ⟨p.1.toArray⟩,.string ⟨p.2.toArray⟩],.int .i64 0]:=by
 simp [rowsV,okRows,Function.comp_def]
theorem IsM.sorted {w:World} {mb n:Nat} {m:M} (h:IsM w mb n m):SortedM m:=sorted_of_canon (World.ownsMap.canon h (Maps.string_keyed tStr))
theorem IsM.keySize {w:World} {mb n:Nat} {m:M} (h:IsM w mb n m) {p} (hp:p∈m):p.1.length≤maxLen:=by
 obtain ⟨es,he,hk⟩:=World.ownsMap.keysOf h
 have e:encM m=es:=by injection he
 subst e
 obtain ⟨v,hv⟩:=hk (.string p.1,.lit (.string p.2)) (List.mem_map.2 ⟨p,hp,rfl⟩)
 obtain ⟨x,_,h1,h2⟩:=Maps.keyOf_str tStr hv
 cases h1
 exact h2
def RngCells (u:World) (c1 c2 c3 sb:Nat) (a b:ByteArray):Prop :=
 u.heap[c1]? = some (.cells #[ptr sb] 134 (0,0))∧u.heap[c2]? = some (.cells #[.string a] 9 (0,0))∧u.heap[c3]? = some (.cells #[.string b] 9 (0,0))
theorem rng1_c (c1 c2 c3 sb mb n:Nat) (a b:ByteArray) (m:M) (hml:m.length * 16≤140737488355328) :
  IterP prog 353 [ptr c1,ptr c2,ptr c3] (rowsV (okRows (rngM a.data.toList b.data.toList m))) (fun u=>IsShelf u sb mb n m∧RngCells u c1 c2 c3 sb a b):=by
 intro y _ J Jx w hJ hF hS hSx hy
 refine F353.enter (args:=[y,ptr c1,ptr c2,ptr c3]) (by simp) ?_
 unfold c353 r353
 obtain ⟨hs,e1,e2,e3⟩:=hF 0 _ _ hJ
 have hsort:=hs.2.1.sorted
 simp only [ZB,insVc,load1K,nilK,faddrK,Zac,Zae,Zab,Za,Zag,Zah,e1,hs.1]
 refine ok_of_calls (by kernel_rfl) (callsIn_wide.1 (Go.Proofs.Tryz.maps_Keys_354 (some mb) w)) ?_
 rintro e w' ⟨rfl,rfl⟩
 refine ⟨_,rfl, ?_⟩
 simp only [ZB,insVc,Zae,Zab]
 have hsz:Maps.size (DM m)=m.length:=by simp [Maps.size,DM,encM]
 refine ok_of_calls (by kernel_rfl) (callsIn_wide.1 (Go.Proofs.Tryz.slices_Sorted_keys_47_354 mb n (DM m) _ w hs.2.1 (by rw [hsz];simp only [maxLen];omega) (by rw [hsz];exact hml))) ?_
 rintro e w2 ⟨v,ss,rfl,hp,hrow,hnil,hbel⟩
 refine ⟨v,rfl, ?_⟩
 have hm2:Mod (fun _=>False) w w2:=((Mod.refl _ _).alloc _).trans (Mod.of_below hbel)
 have hks:ss.mergeSort (fun x y=>decide (x≤y))=m.map (·.1):=sort_keys hsort (by simpa [strKeys,DM,encM,Function.comp_def,strOf] using hp)
 have hlen:ss.length=m.length:=by have:=congrArg List.length hks;simpa using this
 rw [hks,hlen] at hrow
 have hend:∀(u:World) (X:Nat→Prop),w.heap.size≤u.heap.size→(∀k,X k→w.heap.size≤k∧k<u.heap.size)→J (rowsV (okRows (rngM a.data.toList b.data.toList m))).length X u →
   w.heap.size≤u.heap.size∧∃X,(∀k,X k→w.heap.size≤k∧k<u.heap.size)∧(J (rowsV (okRows (rngM a.data.toList b.data.toList m))).length X u∨Jx X u):=fun u X h1 h2 h3=>⟨h1,X,h2,.inl h3⟩
 have hJ2:J 0 (fun k=>w.heap.size≤k∧k<w2.heap.size) w2:=hS 0 _ _ w w2 hJ (hm2.mono fun _ _ x=>x.elim) (fun k hk=>.inr hk)
 have hw2:=hm2.size
 rcases hrow.2 with ⟨rfl,hm0⟩|⟨g,cap,cur,rfl,hbg,hg,hnc,hcm,hcs,htake⟩
 ·have hm':m=[]:=List.eq_nil_of_length_eq_zero hm0
  subst hm'
  simp only [ZB,insVc,lenLK]
  refine vc_loop (fun _ ρ ds u=>ρ 13 = .int .i64 0∧ρ 14 = .int .i64 0∧ds=[]∧u=w2) 0 ⟨rfl,rfl,rfl,rfl⟩ ?_
  rintro _ ρ ds u ⟨h13,h14,rfl,rfl⟩
  simp only [ZB,endK,resK,insVc,iopK,iopV,reduceCtorEq,Int.reduceLT,h13,h14]
  exact hend _ _ hw2 (fun k hk=>hk) hJ2
 ·simp only [ZB,insVc,lenLK]
  have hbg':w.heap.size≤g:=by have:=hbg;rw [size_alloc] at this;omega
  let cnt:Nat→Nat:=fun i=>((m.take i).filter (inR a.data.toList b.data.toList)).length
  have hcell:∀(i:Nat) (p:List UInt8 × List UInt8),m[i]? = some p→cur[i]? = some (Value.string ⟨p.1.toArray⟩):=by
   intro i p hi
   have h1:(cur.toList.take (m.length * 1))[i]? = some (Value.string ⟨p.1.toArray⟩):=by rw [htake];simp [hi,Go.Proofs.encStr]
   have hlt:i<m.length:=by
    rcases Nat.lt_or_ge i m.length with h|h
    ·exact h
    ·rw [List.getElem?_eq_none h] at hi;cases hi
   rw [List.getElem?_take,if_pos (by omega)] at h1
   simpa using h1
  refine vc_loop (fun mm ρ ds u => ∃i X,i≤m.length∧mm=m.length-i∧ρ 0=y∧ρ 1=ptr c1∧ρ 2=ptr c2∧ρ 3=ptr c3∧ρ 12 = .slice (some ⟨g,0,none⟩) m.length cap∧ρ 13 = .int .i64 m.length∧ρ 14 = .int .i64 i∧ds=[] ∧
   J (cnt i) X u∧(∀k,X k→w.heap.size≤k∧k<u.heap.size)∧X g∧u.heap[g]? = some (.cells cur 9 (0,0))∧w.heap.size≤u.heap.size) (m.length-0) ?_ ?_
  ·refine ⟨0,fun k=>w.heap.size≤k∧k<w2.heap.size,Nat.zero_le _,rfl, ?_⟩
   simp only [ZB,ne_eq,Nat.reduceEqDiff,reduceCtorEq,Zac,Za,Zag]
   exact ⟨rfl,hJ2,fun k hk=>hk,⟨hbg',lt_of_get hg⟩,hg,hw2⟩
  ·rintro mm ρ ds u ⟨i,X,hi,rfl,h0,h1,h2,h3,h12,h13,h14,rfl,hJu,hX,hXg,hgu,hsu⟩
   simp only [ZB,insVc,iopK,iopV,reduceCtorEq,h13,h14]
   refine condP_split ?_ ?_
   ·intro hc
    have hlt:i<m.length:=by have:=of_decide_eq_true hc;omega
    obtain ⟨p,hp⟩:∃p,m[i]? = some p:=⟨m[i],List.getElem?_eq_getElem hlt⟩
    obtain ⟨hs',e1',e2',e3'⟩:=hF _ _ _ hJu
    have hpm:p∈m:=List.mem_of_getElem? hp
    have hps:=hs'.2.1.keySize hpm
    have hlk:=look_mem hsort hpm
    have htk:m.take (i+1)=m.take i ++ [p]:=by rw [List.take_add_one,hp];rfl
    simp only [ZB,insVc,load1K,sopK,sopV,iaddrK,ne_eq,Nat.reduceEqDiff,Za,Zah,Zbj,Zbm,h2,h12,h14,hgu,hcell i p hp,e2',ByteArray.toList_eq]
    refine ⟨by omega, ?_⟩
    have hi1:IntKind.i64.wrap ((i:Int)+1)=((i+1:Nat):Int):=by
     have:m.length≤140737488355328:=by omega
     rw [wrap_i64 _ (by omega)];omega
    have hskip:inR a.data.toList b.data.toList p=false→cnt (i+1)=cnt i:=by
     intro hin
     show (((m.take (i+1)).filter _).length)=_
     rw [htk,List.filter_append,List.filter_cons_of_neg (by rw [hin];exact Bool.false_ne_true)]
     simp [cnt]
    have htakeit:inR a.data.toList b.data.toList p=true→cnt (i+1)=cnt i+1:=by
     intro hin
     show (((m.take (i+1)).filter _).length)=_
     rw [htk,List.filter_append,List.filter_cons_of_pos hin]
     simp [cnt]
    have hrow:inR a.data.toList b.data.toList p=true→(rowsV (okRows (rngM a.data.toList b.data.toList m)))[cnt i]? = some [.agg #[.string ⟨p.1.toArray⟩,.string ⟨p.2.toArray⟩],.int .i64 0]:=by
     intro hin
     have hsp:m=m.take i ++ p :: m.drop (i+1):=by
      rw [← List.singleton_append,← List.append_assoc,← htk,List.take_append_drop]
     have e:rngM a.data.toList b.data.toList m=(m.take i).filter (inR a.data.toList b.data.toList) ++ p :: (m.drop (i+1)).filter (inR a.data.toList b.data.toList):=by
      show m.filter _=_
      conv=>lhs;rw [hsp]
      rw [List.filter_append,List.filter_cons_of_pos hin]
     rw [rowsV_ok,e]
     simp [cnt]
    cases hA:Op.bytesLess p.1 a.data.toList with
    | true =>
     have hin:inR a.data.toList b.data.toList p=false:=by simp [inR,hA]
     simp only [ZB,insVc,pickK,iopK,iopV,ne_eq,Nat.reduceEqDiff,reduceCtorEq,Zaa,h14,hi1]
     refine ⟨m.length-(i+1),by omega,i+1,X,by omega,rfl, ?_⟩
     simp only [true_and,h0,h1,h2,h3,h12,h13,hskip hin]
     exact ⟨hJu,hX,hXg,hgu,hsu⟩
    | false =>
     have hyield:inR a.data.toList b.data.toList p=true→∀G:Value→World→Prop,
       (∀u',u.heap.size≤u'.heap.size→(∀k,X k→u'.heap[k]? = u.heap[k]?)→J (cnt i+1) X u'→G (.bool true) u') →
       (∀u',u.heap.size≤u'.heap.size→Jx X u'→G (.bool false) u') →
       callvK prog G u [.agg #[.string ⟨p.1.toArray⟩,.string ⟨p.2.toArray⟩],.int .i64 0] y:=by
      intro hin G g1 g2
      have hr:=hrow hin
      have hlt':cnt i<(rowsV (okRows (rngM a.data.toList b.data.toList m))).length:=by
       rcases Nat.lt_or_ge (cnt i) (rowsV (okRows (rngM a.data.toList b.data.toList m))).length with h|h
       ·exact h
       ·rw [List.getElem?_eq_none h] at hr;cases hr
      have hyy:=hy (cnt i) hlt' X u hJu hX hsu
      rw [hr] at hyy
      refine callvK_mono hyy ?_
      rintro v u' ⟨⟨q1,q2⟩,⟨rfl,q3⟩|⟨rfl,q3⟩⟩
      ·exact g1 u' q1 q2 q3
      ·exact g2 u' q1 q3
     cases hB:(b.data.toList == []) <;> cases hC:Op.bytesLess p.1 b.data.toList <;> simp only [ZB,insVc,pickK,load1K,nilK,iopK,iopV,sopK,sopV,faddrK,ne_eq,Nat.reduceEqDiff,reduceCtorEq,Za,Zah,Zaa,Zaf,h0,h1,h14,h3,e1',e3',hs'.1,ByteArray.toList_eq,hB,hC]
     ·have hin:inR a.data.toList b.data.toList p=false:=by simp [inR,hA,hB,hC]
      simp only [hi1]
      refine ⟨m.length-(i+1),by omega,i+1,X,by omega,rfl, ?_⟩
      simp only [true_and,h2,h12,h13,hskip hin]
      exact ⟨hJu,hX,hXg,hgu,hsu⟩
     all_goals
      have hin:inR a.data.toList b.data.toList p=true:=by simp [inR,hA,hB,hC]
      refine rawK_lookup rfl rfl rfl (by simpa only [vc_skip,vc_seq,vc_cond,vc_block,vc_exit,vc_ret,vc_ops,vcOps_nil,vcOps_cons,vcOps_gate,gateK_true,gateK_false,gate_true,gate_false,gate_undef,goL_apply,thenQ_normal,thenQ_ret,thenQ_exit,blockQ_normal,blockQ_ret,blockQ_same,blockQ_exit,condP_true,condP_false,upd_same,upd_other,updO_some,updO_none,ev_tmp,ev_const,ev_global,ev_func,endQ_ret,endQ_normal,endK,resK,resN,res1,resO_cells,resNO_cells,packed,initE_at,insVc,pickK,load1K,loadO_cells,loadV_some,loadV_none,loadNK,loadNO_cells,storeK,storeO_cells,storeNK,storeNO_cells,setMany,nilK,nilM,iopK,iopV,sopK,sopV,bopK,nilOf,pnilK,notK,convK,sameK,faddrK,fld1K,fldNK,iaddrK,iaddrAK,sidxK,extK,lenSK,lenLK,callvK,invK,buildK,fillL,buildSK,boundOf,slSK,slLK,slAK,isPlain,Value.cells,ne_eq,not_false_eq_true,not_true_eq_false,Nat.reduceEqDiff,Nat.reduceAdd,Nat.reduceLT,Nat.reduceLeDiff,reduceCtorEq,Bool.not_true,Bool.not_false,Option.map_some,Option.map_none,Option.getD_some,Option.getD_none,List.map_cons,List.map_nil,List.getElem?_cons_zero,List.getElem?_cons_succ,List.getElem?_nil,List.getElem?_toArray,List.size_toArray,List.length_cons,List.length_nil,List.zipIdx_cons,List.zipIdx_nil,List.foldl_cons,List.foldl_nil,List.setIfInBounds_toArray,List.set_cons_zero,List.set_cons_succ,List.append_eq,List.nil_append,List.cons_append,List.append_nil,List.toList_toArray,true_and,and_true,true_or,or_true,or_false,false_or,and_self,if_true,if_false,ite_true,ite_false,Bool.false_eq_true,Nat.zero_add,Nat.add_zero,decide_true,decide_false,Bool.and_true,Bool.and_false,Bool.true_and,Bool.false_and,Option.isNone_some,Option.isNone_none,Int.reduceLT,Int.reduceLE,Int.reduceToNat,Int.toNat_natCast,Int.reduceAdd,Int.reduceSub,Int.reduceMul,Int.reduceNeg,Int.reduceEq,Int.reduceNe,Int.reduceBEq,Int.reduceBNe,Nat.mul_one,List.extract_toArray,List.extract_eq_take_drop,List.drop_zero,List.drop_succ_cons,List.take_zero,List.take_succ_cons,Nat.sub_zero,Nat.add_sub_cancel,Nat.add_sub_cancel_left,vcS_nil,vcS_cons,vcS_gate,gateS_true,gateS_false,stepB_true,stepB_false,pureI,Nat.zero_mul,Nat.one_mul,Nat.reduceMul,Nat.reduceSub,List.all_toArray',List.all_cons,List.all_nil,size_set,size_alloc,size_drew,get_alloc_new,get_set_same,get_drew,Nat.lt_add_one,vcD_nil,vcD_cons,vcD_gate,gateD_true,gateD_false,stepD_pure,stepD_load,stepD_step,kindI,loadI] using hs'.2.1.look ⟨p.1.toArray⟩ (by simpa [ByteArray.size] using hps) false) ?_
      simp only [ZB,insVc,callvK,buildK,fillL,Value.cells,ne_eq,Nat.reduceEqDiff,Nat.reduceAdd,Nat.reduceLeDiff,Zac,Zae,Zab,Zai,Zak,Zaj,Zbe,Zbf,Zbd,Zbc,Zal,Zam,Zan,Zbh,Zaa,hlk]
      refine hyield hin _ ?_ ?_
      ·intro u' q1 q2 q3
       simp only [ZB,insVc,iopK,iopV,notK,ne_eq,Nat.reduceEqDiff,reduceCtorEq,h14,hi1]
       refine ⟨m.length-(i+1),by omega,i+1,X,by omega,rfl, ?_⟩
       simp only [true_and,h0,h1,h2,h3,h12,h13,htakeit hin]
       exact ⟨q3,fun k hk=>⟨(hX k hk).1,Nat.lt_of_lt_of_le (hX k hk).2 q1⟩,hXg,(q2 g hXg).trans hgu,Nat.le_trans hsu q1⟩
      ·intro u' q1 q3
       simp only [ZB,endK,resK,insVc,notK]
       exact ⟨Nat.le_trans hsu q1,X,fun k hk=>⟨(hX k hk).1,Nat.lt_of_lt_of_le (hX k hk).2 q1⟩,.inr q3⟩
   ·intro hc
    have hge:i=m.length:=by have:=of_decide_eq_false hc;omega
    subst hge
    simp only [ZB,endK,resK]
    refine hend u X hsu hX ?_
    have:cnt m.length=(rowsV (okRows (rngM a.data.toList b.data.toList m))).length:=by simp [cnt,rowsV,okRows,rngM]
    rw [← this];exact hJu
theorem iterP_mono {gf:FuncId} {cap:List Value} {xs:List (List Value)} {F F':World→Prop} (h:IterP prog gf cap xs F) (hF:∀w,F' w→F w):IterP prog gf cap xs F' :=
 fun y yf J Jx w hJ hJF hS hSx hy=>h y yf J Jx w hJ (fun i X u hu=>hF u (hJF i X u hu)) hS hSx hy
theorem rng_c (sb mb n:Nat) (m:M) (a b:ByteArray) (w:World) (K:Value→World→Prop) (hs:IsShelf w sb mb n m) (hml:m.length * 16≤140737488355328)
  (h:∀w' gf cap,Mod (fun _=>False) w w'→IterP prog gf cap (rowsV (okRows (rngM a.data.toList b.data.toList m))) (fun u=>IsShelf u sb mb n m∧Kept w.heap.size w' u)→K (.func (.func gf) #[] cap.toArray) w') :
  Ok prog 352 #[ptr sb,.string a,.string b] w K:=by
 refine F352.enter (args:=[ptr sb,.string a,.string b]) (by simp) ?_
 unfold c352 r352
 simp only [ZB,endK,resK,packed,insVc,Value.cells,ne_eq,Nat.reduceEqDiff,Zac,Zae,Zab,Za,Zag,Zad]
 refine h _ _ [ptr w.heap.size,ptr (w.heap.size+1),ptr (w.heap.size+1+1)] ((((Mod.refl _ _).alloc _).alloc _).alloc _) (iterP_mono (rng1_c _ _ _ sb mb n a b m hml) ?_)
 rintro u ⟨h1,h2⟩
 refine ⟨h1,h2.at ?_ (Nat.le_refl _),h2.at ?_ (by omega),h2.at ?_ (by omega)⟩ <;> simp only [Nat.reduceEqDiff,Nat.reduceAdd,reduceCtorEq,Zaa,Zaf,size_alloc,get_alloc,size_alloc,Zb,Nat.reduceAdd,Zbg,Zba,Zbi,Nat.reduceEqDiff,Zaz]
structure Sto (σ:Type) where
 t:TypeId
 v:Value
 At:σ→World→Prop
 own:Nat→Prop
 foot:Nat→Prop
 fit:σ→Prop
 ownFoot:∀k,own k→foot k
 footLt:∀s w k,At s w→foot k→k<w.heap.size
 own0:¬own 3
 keep:∀(S:Nat→Prop) s w w',At s w→Mod S w w'→(∀k,k<w.heap.size→S k→¬foot k)→At s w'
 get:σ→ByteArray→(ByteArray × Bool × Int) × σ
 getOk:∀s k w (G:Value→World→Prop),At s w→k.size≤255 →
  (∀w',Mod own w w'→At (get s k).2 w'→G (.tuple #[.string (get s k).1.1,.bool (get s k).1.2.1,.int .i64 (get s k).1.2.2]) w')→InvK prog G t v "Get" [.string k] w
 put:σ→ByteArray→ByteArray→Int × σ
 putOk:∀s k x w (G:Value→World→Prop),At s w→fit s →
  (∀w',Mod own w w'→At (put s k x).2 w'→G (.int .i64 (put s k x).1) w')→InvK prog G t v "Put" [.string k,.string x] w
 rfit:σ→Prop
 rng:σ→ByteArray→ByteArray→List Pr × σ
 rngOk:∀s a b w (G:Value→World→Prop),At s w→rfit s →
  (∀w' gf cap,Mod own w w'→At (rng s a b).2 w'→IterP prog gf cap (rowsV (rng s a b).1) (fun u=>At (rng s a b).2 u∧Kept w.heap.size w' u)→G (.func (.func gf) #[] cap.toArray) w') →
  InvK prog G t v "Range" [.string a,.string b] w
 putNil:∀w,(nilAhead ((prog).types.size+Made.depth) t v "Put").run prog w = .ok (some false) w
theorem Sto.keep0 {σ:Type} (St:Sto σ) {s:σ} {w w':World} (h:St.At s w) (hm:Mod (fun _=>False) w w'):St.At s w':=St.keep _ s w w' h hm (fun _ _ x=>x.elim)
def shelf (sb mb:Nat) (h0:3≠mb):Sto (Nat × M) where
 t:=134
 v:=ptr sb
 At s w:=IsShelf w sb mb s.1 s.2
 own k:=k=mb
 foot k:=k=sb∨k=mb
 fit s:=s.1<maxLen
 ownFoot _ h:=.inr h
 footLt s w k h hk:=by
  rcases hk with rfl|rfl
  ·exact lt_of_get h.1
  ·exact World.ownsMap.lt h.2.1
 own0 h:=h0 h
 keep S s w w' h hm hS:=h.keep hm (fun x=>hS _ (lt_of_get h.1) x (.inl rfl)) (fun x=>hS _ (World.ownsMap.lt h.2.1) x (.inr rfl))
 get s k:=((⟨((lookM k.data.toList s.2).getD []).toArray⟩,(lookM k.data.toList s.2).isSome,0),s)
 getOk s k w G h hk hG:=⟨350,ptr sb,by kernel_rfl,sget_c sb mb s.1 s.2 k w G h (by simp [maxLen];omega) (hG w (Mod.refl _ _) h)⟩
 put s k x:=if k.size > 255∨x.size > 65536 then (5,s) else (0,(s.1+1,putM k.data.toList x.data.toList s.2))
 putOk s k x w G h hf hG:=⟨351,ptr sb,by kernel_rfl,by
  refine sput_c sb mb s.1 s.2 k x w G h hf (fun hc => ?_) (fun hc w' hm hs => ?_)
  ·rw [if_pos hc] at hG;exact hG w (Mod.refl _ _) h
  ·rw [if_neg hc] at hG;exact hG w' hm hs⟩
 rfit s:=s.2.length * 16≤140737488355328
 rng s a b:=(okRows (rngM a.data.toList b.data.toList s.2),s)
 rngOk s a b w G h hf hG:=⟨352,ptr sb,by kernel_rfl,rng_c sb mb s.1 s.2 a b w G h hf (fun w' gf cap hm it=>hG w' gf cap (hm.mono fun _ _ x=>x.elim) (h.keep hm id id) it)⟩
 putNil w:=by kernel_rfl
def findR (name:ByteArray) (g:ByteArray × Bool × Int):Qu × Int :=
 if g.2.2≠0 then (q0,g.2.2) else if g.2.1=false then (q0,21) else qread name g.1
def Sto.find {σ:Type} (St:Sto σ) (s:σ) (name:ByteArray):(Qu × Int) × σ :=
 if (queueK name).2≠0 then ((q0,21),s) else (findR name (St.get s (queueK name).1).1,(St.get s (queueK name).1).2)
theorem find_c {σ:Type} (St:Sto σ) (s:σ) (name:ByteArray) (m:Int) (w:World) (K:Value→World→Prop) (hAt:St.At s w) (hg:Gl m w) (hs:name.size<4294967281)
  (hv:(St.get s (queueK name).1).1.1.size<2^60)
  (h:∀w',Mod St.own w w'→St.At (St.find s name).2 w'→K (.tuple #[(St.find s name).1.1.val,.int .i64 (St.find s name).1.2]) w') :
  Ok prog 104 #[.iface St.t St.v,.string name] w K:=by
 refine F104.enter (args:=[.iface St.t St.v,.string name]) (by simp) ?_
 unfold c104 r104
 simp only [ZB,insVc,Value.cells,ne_eq,Nat.reduceEqDiff,Zac,Zae,Zab,Za,Zag]
 refine callK_gen ?_
 intro w1 hw1
 have hm1:Mod (fun _=>False) w w1:=by rw [hw1];exact (Mod.refl _ _).alloc _
 have e1:w1.heap[w.heap.size]? = some (.cells zq 121 (0,0)):=by rw [hw1];simp only [Zaa,get_alloc]
 clear hw1
 refine queue_c name m w1 _ (hg.mod hm1 id) hs ?_
 intro w2 hm2
 have e2:=hm2.keep e1 id
 have hm12:=hm1.trans hm2
 have hsz:=hm12.size
 have hA2:=St.keep0 hAt hm12
 simp only [ZB,insVc,iopK,iopV,extK,ne_eq,Nat.reduceEqDiff,reduceCtorEq,Za,Zag,Zah]
 refine condP_split ?_ ?_
 ·intro he
  have he':(queueK name).2≠0:=by simpa using he
  have hq:St.find s name=((q0,21),s):=by unfold Sto.find;rw [if_pos he']
  rw [hq] at h
  simp only [ZB,endK,resK,resN,packed,insVc,storeNK,setMany,buildK,fillL,isPlain,ne_eq,Nat.reduceEqDiff,Nat.reduceAdd,Nat.reduceLeDiff,Zai,Zak,Zaj,Zal,Zam,Zan,Zad,Zaw,Zar,Zap,Zaq,Zao,Zas,Zat,Zau,Zav,Zax,e2,get_set_same _ _ _ (lt_of_get e2)]
  have hm3:=hm12.set (b:=w.heap.size) (o:=.cells zq 121 (0,0)) (.inl (Nat.le_refl _))
  exact h _ (hm3.mono (fun _ _ x=>x.elim)) (St.keep0 hAt hm3)
 ·intro he
  have he':(queueK name).2=0:=by simpa using he
  have hq:St.find s name=(findR name (St.get s (queueK name).1).1,(St.get s (queueK name).1).2):=by unfold Sto.find;rw [if_neg (by simpa using he')]
  rw [hq] at h
  simp only [ZB,insVc,invK,ne_eq,Nat.reduceEqDiff,reduceCtorEq,Zac,Zae,Zab,Za]
  refine St.getOk s (queueK name).1 w2 _ hA2 (keyL_size _ _ (by simp)) ?_
  intro w3 hm3 hA3
  have hno:¬St.own w.heap.size:=fun x=>by have:=St.footLt s w _ hAt (St.ownFoot _ x);omega
  have e3:=hm3.keep e2 hno
  have hm13:Mod St.own w w3:=(hm12.mono (fun _ _ x=>x.elim)).trans hm3
  revert h
  generalize (St.get s (queueK name).1)=got at *
  intro h
  simp only [ZB,insVc,iopK,iopV,extK,ne_eq,Nat.reduceEqDiff,reduceCtorEq,Za,Zag,Zah]
  have fin:∀(q:Qu) (e:Int),findR name got.1=(q,e)→∀w4,Mod (fun k=>k=w.heap.size) w3 w4→K (.tuple #[q.val,.int .i64 e]) w4:=by
   intro q e hf w4 hm4
   simp only [hf] at h
   refine h w4 (hm13.then hm4 (fun i hi hk=>by omega)) (St.keep _ _ w3 w4 hA3 hm4 (fun k _ hk hf => ?_))
   subst hk
   have:=St.footLt s w _ hAt hf
   omega
  refine condP_split ?_ ?_
  ·intro hc
   have hc':got.1.2.2≠0:=by simpa using hc
   simp only [ZB,endK,resK,resN,packed,insVc,storeNK,setMany,buildK,fillL,isPlain,ne_eq,Nat.reduceEqDiff,Nat.reduceAdd,Nat.reduceLeDiff,Zai,Zak,Zaj,Zal,Zam,Zan,Zad,Zaw,Zar,Zap,Zaq,Zao,Zas,Zat,Zau,Zav,Zax,e3,get_set_same _ _ _ (lt_of_get e3)]
   exact fin q0 got.1.2.2 (by unfold findR;rw [if_pos hc']) _ ((Mod.refl _ _).set (.inr rfl))
  ·intro hc
   have hc':got.1.2.2=0:=by simpa using hc
   simp only [ZB,insVc,notK,ne_eq,Nat.reduceEqDiff]
   refine condP_split ?_ ?_
   ·intro hk
    have hk':got.1.2.1=false:=by simpa using hk
    simp only [ZB,endK,resK,resN,packed,insVc,storeNK,setMany,buildK,fillL,isPlain,ne_eq,Nat.reduceEqDiff,Nat.reduceAdd,Nat.reduceLeDiff,Zai,Zak,Zaj,Zal,Zam,Zan,Zad,Zaw,Zar,Zap,Zaq,Zao,Zas,Zat,Zau,Zav,Zax,e3,get_set_same _ _ _ (lt_of_get e3)]
    exact fin q0 21 (by unfold findR;rw [if_neg (by simpa using hc'),if_pos hk']) _ ((Mod.refl _ _).set (.inr rfl))
   ·intro hk
    have hk':got.1.2.1=true:=by simpa using hk
    simp only [ZB,insVc,ne_eq,Nat.reduceEqDiff,Zac,Zae,Zab,Za,Zag]
    refine queues_c name w3 _ ?_
    intro w4 qv hm4 hq4
    simp only [ZB,insVc,ne_eq,Nat.reduceEqDiff,Zae,Zab]
    refine qread_c qv _ name got.1.1 w4 _ hq4 hv ?_
    intro w5 hm5
    have e5:=(hm4.trans hm5).keep e3 id
    simp only [ZB,endK,resK,resN,packed,insVc,storeNK,setMany,extK,isPlain,ne_eq,Nat.reduceEqDiff,Nat.reduceAdd,Nat.reduceLeDiff,Za,Zag,Zah,Zai,Zak,Zaj,Zal,Zam,Zan,Zad,Zaw,Zar,Zap,Zaq,Zao,Zas,Zat,Zau,Zav,Zax,Qu.val,Qu.cells,e5,get_set_same _ _ _ (lt_of_get e5)]
    exact fin _ _ (by unfold findR;rw [if_neg (by simpa using hc'),if_neg (by simp [hk'])]) _ (((hm4.trans hm5).mono (fun _ _ x=>x.elim)).set (.inr rfl))
def Sto.next {σ:Type} (St:Sto σ) (s:σ) (name:ByteArray):(Nat × Int) × σ :=
 if (counterK name).2≠0 then ((0,(counterK name).2),s) else
 let g:=St.get s (counterK name).1
 if g.1.2.2≠0 then ((0,g.1.2.2),g.2) else
 let r:=if g.1.2.1=true then cread g.1.1 else (0,0)
 if r.2≠0 then ((0,r.2),g.2) else
 if r.1=18446744073709551615 then ((0,8),g.2) else
 let p:=St.put g.2 (counterK name).1 (cbytes (r.1+1))
 if p.1≠0 then ((0,p.1),p.2) else ((r.1+1,0),p.2)
theorem cread_lt (s:ByteArray):(cread s).1<2^64:=by
 unfold cread
 simp only []
 split
 ·simp
 ·exact num_lt _
theorem next_c {σ:Type} (St:Sto σ) (s:σ) (name:ByteArray) (m:Int) (w:World) (K:Value→World→Prop) (hAt:St.At s w) (hg:Gl m w) (hs:name.size<4294967281)
  (hv:(St.get s (counterK name).1).1.1.size<2^60) (hf:St.fit (St.get s (counterK name).1).2)
  (h:∀w',Mod St.own w w'→St.At (St.next s name).2 w'→K (.tuple #[.int .u64 ((St.next s name).1.1:Nat),.int .i64 (St.next s name).1.2]) w') :
  Ok prog 235 #[.iface St.t St.v,.string name] w K:=by
 refine F235.enter (args:=[.iface St.t St.v,.string name]) (by simp) ?_
 unfold c235 r235
 simp only [ZB,insVc,ne_eq,Nat.reduceEqDiff,Zac,Zae,Zab,Za,Zag]
 refine counter_c name m w _ hg hs ?_
 intro w1 hm1
 have hA1:=St.keep0 hAt hm1
 simp only [ZB,insVc,iopK,iopV,extK,ne_eq,Nat.reduceEqDiff,reduceCtorEq,Za,Zag,Zah]
 unfold Sto.next at h
 refine condP_split ?_ ?_
 ·intro he
  have he':(counterK name).2≠0:=by simpa using he
  rw [if_pos he'] at h
  simp only [ZB,endK,resK,packed,insVc,ne_eq,Nat.reduceEqDiff,Zad,Zaw]
  exact h w1 (hm1.mono (fun _ _ x=>x.elim)) hA1
 ·intro he
  have he':(counterK name).2=0:=by simpa using he
  rw [if_neg (by simpa using he')] at h
  simp only [ZB,insVc,invK,ne_eq,Nat.reduceEqDiff,reduceCtorEq,Zac,Zae,Zab,Za]
  refine St.getOk s (counterK name).1 w1 _ hA1 (keyL_size _ _ (by simp)) ?_
  intro w2 hm2 hA2
  have hm12:Mod St.own w w2:=(hm1.mono (fun _ _ x=>x.elim)).trans hm2
  revert h hA2 hv hf
  generalize (St.get s (counterK name).1)=g
  intro hv hf h hA2
  simp only [ZB,insVc,iopK,iopV,extK,ne_eq,Nat.reduceEqDiff,reduceCtorEq,Za,Zag,Zah]
  refine condP_split ?_ ?_
  ·intro hc
   have hc':g.1.2.2≠0:=by simpa using hc
   simp only [if_pos hc'] at h
   simp only [ZB,endK,resK,packed,insVc,ne_eq,Nat.reduceEqDiff,Zad,Zaw]
   exact h w2 hm12 hA2
  ·intro hc
   have hc':g.1.2.2=0:=by simpa using hc
   simp only [if_neg (show ¬g.1.2.2≠0 by simpa using hc')] at h
   simp only [ZB,insVc,ne_eq,Nat.reduceEqDiff]
   cases hk:g.1.2.1 with
   | false =>
    simp only [hk,Bool.false_eq_true,Zaf,ne_eq,not_true_eq_false,Nat.reduceEqDiff] at h
    simp only [ZB,insVc,iopK,iopV,ne_eq,Nat.reduceEqDiff,reduceCtorEq,Int.reduceBEq]
    have e01:IntKind.u64.wrap (0+1)=((0+1:Nat):Int):=by decide
    have e02:IntKind.u64.wrap 1=((0+1:Nat):Int):=by decide
    refine draw_d (fun _=>True) (by kernel_rfl) (by kernel_rfl) (by kernel_rfl) (by kernel_rfl) trivial ?_
    simp only [ZB,insVc,nilK,nilM,iopK,iopV,invK,ne_eq,Nat.reduceEqDiff,reduceCtorEq,Zac,Zae,Zab,Za,Zah,Zaa,Zaf,Int.reduceAdd,pureI,vcD_nil,vcD_cons,stepD_pure,stepD_step,kindI,loadI,St.putNil,implies_true]
    refine counters_c _ _ ?_
    intro w4 cv hm4 hC4
    simp only [Nat.zero_add,e02]
    refine cbytes_c cv _ (0+1) w4 _ hC4 (by omega) ?_
    intro w5 hm5
    have hm25:Mod (fun _=>False) w2 w5:=((Mod.refl _ w2).drew.trans hm4).trans hm5
    refine St.putOk g.2 (counterK name).1 (cbytes (0+1)) w5 _ (St.keep0 hA2 hm25) hf ?_
    intro w6 hm6 hA6
    have hm6':Mod St.own w w6:=(hm12.trans (hm25.mono (fun _ _ x=>x.elim))).trans hm6
    simp only [true_and,Nat.zero_add]
    refine condP_split ?_ ?_
    ·intro hp
     have hp':(St.put g.2 (counterK name).1 (cbytes (0+1))).1≠0:=by simpa using hp
     simp only [if_pos hp'] at h
     simp only [ZB,endK,resK,packed,insVc,ne_eq,Nat.reduceEqDiff,Zad,Zaw]
     exact h w6 hm6' hA6
    ·intro hp
     have hp':(St.put g.2 (counterK name).1 (cbytes (0+1))).1=0:=by simpa using hp
     simp only [if_neg (show ¬(St.put g.2 (counterK name).1 (cbytes (0+1))).1≠0 by simpa using hp')] at h
     simp only [ZB,endK,resK,packed,insVc,iopK,iopV,ne_eq,Nat.reduceEqDiff,reduceCtorEq,Zad,Zaw,Int.reduceAdd,e02]
     exact h w6 hm6' hA6
   | true =>
    simp only [hk,Zaa] at h
    simp only [ZB,insVc,Zab]
    refine counters_c _ _ ?_
    intro w7 cv7 hm7 hC7
    simp only [ZB,insVc,ne_eq,Nat.reduceEqDiff,Zae,Zab]
    refine cread_c cv7 _ g.1.1 w7 _ hC7 hv ?_
    intro w8 hm8
    have hm28:=hm7.trans hm8
    have hlt:=cread_lt g.1.1
    revert h hlt
    generalize cread g.1.1=r
    intro h hlt
    simp only [ZB,insVc,iopK,iopV,extK,ne_eq,Nat.reduceEqDiff,reduceCtorEq,Za,Zag,Zah]
    refine condP_split ?_ ?_
    ·intro hr
     have hr':r.2≠0:=by simpa using hr
     simp only [if_pos hr'] at h
     simp only [ZB,endK,resK,packed,insVc,ne_eq,Nat.reduceEqDiff,Zad,Zaw]
     exact h w8 (hm12.trans (hm28.mono (fun _ _ x=>x.elim))) (St.keep0 hA2 hm28)
    intro hr
    have hr':r.2=0:=by simpa using hr
    simp only [if_neg (show ¬r.2≠0 by simpa using hr')] at h
    simp only [ZB,insVc,iopK,iopV,ne_eq,Nat.reduceEqDiff,reduceCtorEq]
    refine condP_split ?_ ?_
    ·intro hx
     have hx':r.1=18446744073709551615:=by have:=eq_of_beq hx;omega
     simp only [if_pos hx'] at h
     simp only [ZB,endK,resK,packed,insVc,ne_eq,Nat.reduceEqDiff,Zad,Zaw]
     exact h w8 (hm12.trans (hm28.mono (fun _ _ x=>x.elim))) (St.keep0 hA2 hm28)
    intro hx
    have hx':r.1≠18446744073709551615:=by
     intro e
     rw [e] at hx
     simp at hx
    simp only [if_neg hx'] at h
    simp only [vc_skip,vc_seq,thenQ_normal]
    have e01:IntKind.u64.wrap ((r.1:Int)+1)=((r.1+1:Nat):Int):=by rw [IntKind.wrap_u64];omega
    refine draw_d (fun _=>True) (by kernel_rfl) (by kernel_rfl) (by kernel_rfl) (by kernel_rfl) trivial ?_
    simp only [ZB,insVc,nilK,nilM,iopK,iopV,invK,ne_eq,Nat.reduceEqDiff,reduceCtorEq,Zac,Zae,Zab,Za,Zah,Zaa,Zaf,pureI,vcD_nil,vcD_cons,stepD_pure,stepD_step,kindI,loadI,St.putNil,implies_true]
    refine counters_c _ _ ?_
    intro w4 cv hm4 hC4
    simp only [e01]
    refine cbytes_c cv _ (r.1+1) w4 _ hC4 (by omega) ?_
    intro w5 hm5
    have hm25:Mod (fun _=>False) w2 w5:=((hm28).drew.trans hm4).trans hm5
    refine St.putOk g.2 (counterK name).1 (cbytes (r.1+1)) w5 _ (St.keep0 hA2 hm25) hf ?_
    intro w6 hm6 hA6
    have hm6':Mod St.own w w6:=(hm12.trans (hm25.mono (fun _ _ x=>x.elim))).trans hm6
    simp only [true_and]
    refine condP_split ?_ ?_
    ·intro hp
     have hp':(St.put g.2 (counterK name).1 (cbytes (r.1+1))).1≠0:=by simpa using hp
     simp only [if_pos hp'] at h
     simp only [ZB,endK,resK,packed,insVc,ne_eq,Nat.reduceEqDiff,Zad,Zaw]
     exact h w6 hm6' hA6
    ·intro hp
     have hp':(St.put g.2 (counterK name).1 (cbytes (r.1+1))).1=0:=by simpa using hp
     simp only [if_neg (show ¬(St.put g.2 (counterK name).1 (cbytes (r.1+1))).1≠0 by simpa using hp')] at h
     simp only [ZB,endK,resK,packed,insVc,iopK,iopV,ne_eq,Nat.reduceEqDiff,reduceCtorEq,Zad,Zaw,e01]
     exact h w6 hm6' hA6
end Go.Oct
