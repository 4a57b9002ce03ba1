import Derived.Test.YtcbacomljnjacaaGreatDoorVoD
set_option linter.unusedSimpArgs false
set_option linter.unusedVariables false
set_option linter.unusedSectionVars false
set_option linter.unnecessarySimpa false
namespace Go.Oct
open Go Go.Vc Go.VrA
set_option maxRecDepth 100000
theorem info_of {P : Program} {e : TypeId} {z : Option Value} {s b : Nat} (h : (P.info? e).map (fun i=>(i.zero,i.size,i.bytes)) = some (z,s,b)) : ∃ i,P.info? e = some i∧i.zero = z∧i.size = s∧i.bytes = b:=by
  cases hi : P.info? e with
  | none=>rw [hi] at h; cases h
  | some i=>rw [hi] at h; simp at h; exact ⟨i,rfl,h.1,h.2.1,h.2.2⟩
theorem info_pt : (Proofs.Tryz.prog.info? 220).map (fun i=>(i.zero,i.size,i.bytes)) = some (some (.agg #[.bool false,.int .u64 0,.string ⟨#[]⟩]),3,32):=by kernel_rfl
def IsArg (w : World) (v : Value) (l : List Pt) : Prop:=(l = []∧∃ c,v = .slice none 0 c)∨IsPts w v l
theorem pts_len (l : List Pt) : (l.flatMap Pt.cells).length = l.length * 3:=by
  induction l with
  | nil=>rfl
  | cons p l ih=>simp [ih,Pt.cells]; omega
theorem pts_one (l : List Pt) : ∀ u ∈ l.flatMap Pt.cells,u.oneCell' = true:=by
  intro u hu
  obtain ⟨p,_,hp⟩:=List.mem_flatMap.1 hu
  simp only [Pt.cells,Zbo,Zbp,or_false] at hp
  rcases hp with rfl | rfl | rfl <;> rfl
theorem src_arg {w : World} {v : Value} {l : List Pt} (h : IsArg w v l) : Src Proofs.Tryz.prog 3 301 v l.length (l.flatMap Pt.cells) w:=by
  rcases h with ⟨rfl,c,rfl⟩ | ⟨g,cap,cur,rfl,hg,hcur⟩
  · exact Src.ofNil w (e':=220) (by kernel_rfl) c
  · refine Src.ofSlice w (e':=220) (by kernel_rfl) ⟨g,0,none⟩ l.length cap _ (pts_len l) ?_ (pts_one l)
    intro j u hj
    have hjl : j < l.length * 3:=by rw [← pts_len]; exact (List.getElem?_eq_some_iff.1 hj).1
    rw [← hcur,List.getElem?_take,if_pos hjl] at hj
    simpa [World.cell?,hg,Addr.add_lit] using hj
theorem isArg_keep {w w' : World} {S : Nat→Prop} {v : Value} {l : List Pt} (h : IsArg w v l) (hm : Mod S w w') (hS : ∀ k,k < w.heap.size→¬ S k) : IsArg w' v l:=by
  rcases h with ⟨rfl,c,rfl⟩ | ⟨g,cap,cur,rfl,hg,hcur⟩
  · exact .inl ⟨rfl,c,rfl⟩
  · exact .inr ⟨g,cap,cur,rfl,hm.keep hg (hS g (lt_of_get hg)),hcur⟩
theorem key_c (sort : ByteArray) (l : List Pt) (v : Value) (m : Int) (w : World) (K : Value→World→Prop) (hg : Gl m w) (hv : IsArg w v l) (hl : l.length < 2 ^ 20) (hs : sort.size < 4294967281) (hp : ∀ p ∈ l,p.good)
    (h : ∀ w',Mod (fun _=>False) w w'→K (.tuple #[.string (keyL (str sort :: l) []).1,.int .i64 (keyL (str sort :: l) []).2]) w') :
    Ok Proofs.Tryz.prog 202 #[.string sort,v] w K:=by
  refine F202.enter (args:=[.string sort,v]) (by simp) ?_
  unfold c202 r202
  simp only [ZB,insVc,ne_eq,reduceCtorEq,Zaf,Zad,Zac,Za]
  refine str_c sort w _ ?_
  intro w1 hm1
  simp only [ZB,insVc,fillL,buildSK,Value.cells,ne_eq,Nat.reduceEqDiff,Nat.reduceAdd,Nat.reduceLeDiff,Zaf,Za,Zag,Zai,Zaj,Zak,Zbd,Zbe,Zbc,Zbb,Zal,Zam,Zan,Zbh,Zab,Pt.val,Pt.cells,str]
  have hown:=World.ownsRow_lit (base:=w.heap.size) (e:=220) (size:=3) w1 #[.bool true,.int .u64 0,.string sort] 1 hm1.size (by simp [maxLen]) rfl
  have hm2 : Mod (fun _=>False) w (w1.alloc (.cells #[.bool true,.int .u64 0,.string sort] 220)):=hm1.alloc _
  generalize hw2 : w1.alloc (.cells #[.bool true,.int .u64 0,.string sort] 220) = w2 at *
  obtain ⟨i,hi,hi1,hi2⟩:=info_of info_pt
  obtain ⟨v',w3,hr,hown',hm3,hblk⟩:=run_append_mine (P:=Proofs.Tryz.prog) w.heap.size 301 301 301 220 i _ 3 (by kernel_rfl) hi hi1 hi2.1 rfl (by decide) _ 1 _ hown v l.length _ (src_arg (isArg_keep hv hm2 (fun _ _=>id))) (by simp [maxLen]; omega) (by rw [hi2.2]; omega) hm2.size
  refine rawK_append rfl rfl rfl (by simpa only [vc_skip,vc_seq,vc_cond,vc_block,vc_exit,vc_ret,vc_ops,vcOps_nil,vcOps_cons,vcOps_gate,gateK_true,gateK_false,gate_true,gate_false,gate_undef,goL_apply,thenQ_normal,thenQ_ret,thenQ_exit,blockQ_normal,blockQ_ret,blockQ_same,blockQ_exit,condP_true,condP_false,upd_same,upd_other,updO_some,updO_none,ev_tmp,ev_const,ev_global,ev_func,endQ_ret,endQ_normal,endK,resK,resN,res1,resO_cells,resNO_cells,packed,initE_at,insVc,pickK,load1K,loadO_cells,loadV_some,loadV_none,loadNK,loadNO_cells,storeK,storeO_cells,storeNK,storeNO_cells,setMany,nilK,nilM,iopK,iopV,sopK,sopV,bopK,nilOf,pnilK,notK,convK,sameK,faddrK,fld1K,fldNK,iaddrK,iaddrAK,sidxK,extK,lenSK,lenLK,callvK,invK,buildK,fillL,buildSK,boundOf,slSK,slLK,slAK,isPlain,Value.cells,ne_eq,not_false_eq_true,not_true_eq_false,Nat.reduceEqDiff,Nat.reduceAdd,Nat.reduceLT,Nat.reduceLeDiff,reduceCtorEq,Bool.not_true,Bool.not_false,Option.map_some,Option.map_none,Option.getD_some,Option.getD_none,List.map_cons,List.map_nil,List.getElem?_cons_zero,List.getElem?_cons_succ,List.getElem?_nil,List.getElem?_toArray,List.size_toArray,List.length_cons,List.length_nil,List.zipIdx_cons,List.zipIdx_nil,List.foldl_cons,List.foldl_nil,List.setIfInBounds_toArray,List.set_cons_zero,List.set_cons_succ,List.append_eq,List.nil_append,List.cons_append,List.append_nil,List.toList_toArray,true_and,and_true,true_or,or_true,or_false,false_or,and_self,if_true,if_false,ite_true,ite_false,Bool.false_eq_true,Nat.zero_add,Nat.add_zero,decide_true,decide_false,Bool.and_true,Bool.and_false,Bool.true_and,Bool.false_and,Option.isNone_some,Option.isNone_none,Int.reduceLT,Int.reduceLE,Int.reduceToNat,Int.toNat_natCast,Int.reduceAdd,Int.reduceSub,Int.reduceMul,Int.reduceNeg,Int.reduceEq,Int.reduceNe,Int.reduceBEq,Int.reduceBNe,Nat.mul_one,List.extract_toArray,List.extract_eq_take_drop,List.drop_zero,List.drop_succ_cons,List.take_zero,List.take_succ_cons,Nat.sub_zero,Nat.add_sub_cancel,Nat.add_sub_cancel_left,vcS_nil,vcS_cons,vcS_gate,gateS_true,gateS_false,stepB_true,stepB_false,pureI,Nat.zero_mul,Nat.one_mul,Nat.reduceMul,Nat.reduceSub,List.all_toArray',List.all_cons,List.all_nil,size_set,size_alloc,size_drew,get_alloc_new,get_set_same,get_drew,Nat.lt_add_one,vcD_nil,vcD_cons,vcD_gate,gateD_true,gateD_false,stepD_pure,stepD_load,stepD_step,kindI,loadI] using hr) ?_
  simp only [ZB,insVc,Zad,Zac]
  have hm13 : Mod (fun _=>False) w w3:=hm2.then hm3 (fun k hk he=>by simp only [Value.ownBlock,Option.some.injEq] at he; have:=hm1.size; omega)
  have hpts : IsPts w3 v' (str sort :: l):=by
    rcases hown'.2 with ⟨_,h0⟩ | ⟨g,cap,cur,rfl,_,hg',_,_,_,ht⟩
    · omega
    · refine ⟨g,cap,cur, ?_,hg', ?_⟩
      · simp [Nat.add_comm]
      · simpa [Nat.add_comm,Pt.cells,str] using ht
  refine keyf_c (str sort :: l) v' m w3 _ (hg.mod hm13 id) hpts (by simp; omega) ?_ ?_
  · intro p hp'
    rcases List.mem_cons.1 hp' with rfl | hp'
    · exact ⟨by simp [str],hs⟩
    · exact hp p hp'
  · intro w4 hm4
    simp only [ZB,endK,resK,packed,insVc,extK,ne_eq,Nat.reduceEqDiff,Za,Zag,Zah,Zaa,Zav]
    exact h w4 (hm13.trans hm4)
def queueK (name : ByteArray) : ByteArray × Int:=keyL [str ⟨#[113]⟩,str name] []
def counterK (name : ByteArray) : ByteArray × Int:=keyL [str ⟨#[99]⟩,str name] []
theorem pts_lit (w : World) (ps : List Pt) (cs : Array Value) (h : cs = (ps.flatMap Pt.cells).toArray) : IsPts (w.alloc (.cells cs 220)) (.slice (some ⟨w.heap.size,0,none⟩) ps.length ps.length) ps:=by
  subst h
  refine ⟨w.heap.size,ps.length,_,rfl,get_alloc_new _ _, ?_⟩
  rw [← pts_len]; exact List.take_of_length_le (Nat.le_refl _)
theorem queue_c (name : ByteArray) (m : Int) (w : World) (K : Value→World→Prop) (hg : Gl m w) (hs : name.size < 4294967281)
    (h : ∀ w',Mod (fun _=>False) w w'→K (.tuple #[.string (queueK name).1,.int .i64 (queueK name).2]) w') :
    Ok Proofs.Tryz.prog 162 #[.string name] w K:=by
  refine F162.enter (args:=[.string name]) (by simp) ?_
  unfold c162 r162
  simp only [ZB,insVc,ne_eq,reduceCtorEq,Zaf,Zad,Zac,Za]
  refine str_c name w _ ?_
  intro w1 hm1
  simp only [ZB,insVc,fillL,buildSK,Value.cells,Nat.reduceAdd,Nat.reduceLeDiff,Zad,Zac,Zai,Zaj,Zak,Zbd,Zbe,Zbc,Zbb,Zal,Zam,Zan,Zbh,Zab,Pt.val,Pt.cells,str]
  have hm2:=hm1.alloc (.cells #[.bool true,.int .u64 0,.string name] 220)
  refine key_c ⟨#[113]⟩ [str name] _ m _ _ (hg.mod hm2 id) (.inr (pts_lit w1 [str name] _ rfl)) (by simp) (by decide) (by simp [Pt.good,str]; exact hs) ?_
  intro w3 hm3
  simp only [ZB,endK,resK,packed,insVc,extK,ne_eq,Nat.reduceEqDiff,Za,Zag,Zah,Zaa,Zav]
  exact h w3 (hm2.trans hm3)
theorem counter_c (name : ByteArray) (m : Int) (w : World) (K : Value→World→Prop) (hg : Gl m w) (hs : name.size < 4294967281)
    (h : ∀ w',Mod (fun _=>False) w w'→K (.tuple #[.string (counterK name).1,.int .i64 (counterK name).2]) w') :
    Ok Proofs.Tryz.prog 281 #[.string name] w K:=by
  refine F281.enter (args:=[.string name]) (by simp) ?_
  unfold c281 r281
  simp only [ZB,insVc,ne_eq,reduceCtorEq,Zaf,Zad,Zac,Za]
  refine str_c name w _ ?_
  intro w1 hm1
  simp only [ZB,insVc,fillL,buildSK,Value.cells,Nat.reduceAdd,Nat.reduceLeDiff,Zad,Zac,Zai,Zaj,Zak,Zbd,Zbe,Zbc,Zbb,Zal,Zam,Zan,Zbh,Zab,Pt.val,Pt.cells,str]
  have hm2:=hm1.alloc (.cells #[.bool true,.int .u64 0,.string name] 220)
  refine key_c ⟨#[99]⟩ [str name] _ m _ _ (hg.mod hm2 id) (.inr (pts_lit w1 [str name] _ rfl)) (by simp) (by decide) (by simp [Pt.good,str]; exact hs) ?_
  intro w3 hm3
  simp only [ZB,endK,resK,packed,insVc,extK,ne_eq,Nat.reduceEqDiff,Za,Zag,Zah,Zaa,Zav]
  exact h w3 (hm2.trans hm3)
def afterN (s : ByteArray) : Nat→ByteArray × Bool
  | 0=>(e0,false)
  | n + 1=>if (s.data[n]?).getD 0≠255 then (s.extract 0 n ++ big ((s.data[n]?).getD 0 + 1).toNat 1,true) else afterN s n
def after (s : ByteArray) : ByteArray × Bool:=afterN s s.size
theorem after_c (s : ByteArray) (w : World) (K : Value→World→Prop) (hs : s.size < 2 ^ 40)
    (h : ∀ w',Mod (fun _=>False) w w'→K (.tuple #[.string (after s).1,.bool (after s).2]) w') :
    Ok Proofs.Tryz.prog 203 #[.string s] w K:=by
  refine F203.enter (args:=[.string s]) (by simp) ?_
  unfold c203 r203
  simp only [ZB,insVc,lenSK,ne_eq,reduceCtorEq,Zaf,Za]
  refine vc_loop (fun m ρ ds w'=>ds = []∧w' = w∧ρ 0 = .string s∧m≤s.size∧ρ 4 = .int .i64 m∧after s = afterN s m) s.size ?_ ?_
  · exact ⟨rfl,rfl,by simp only [ZB,ne_eq,reduceCtorEq,Zaf,Za],Nat.le_refl _,by simp only [ZB],rfl⟩
  · rintro k ρ ds w' ⟨rfl,rfl,h0,hk,h4,ha⟩
    simp only [ZB,insVc,iopK,iopV,reduceCtorEq,h4]
    cases k with
    | zero =>
      simp only [ZB,endK,resK,packed,insVc,ne_eq,Nat.reduceEqDiff,Zaa,Zav,show ¬ (((0 : Nat) : Int) > 0) by decide]
      rw [ha] at h
      exact h w' (Mod.refl _ _)
    | succ n =>
      have hw : IntKind.i64.wrap (((n + 1 : Nat) : Int) - 1) = (n : Int):=by rw [wrap_i64 _ (by omega)]; omega
      obtain ⟨c,hc⟩ : ∃ c,s.data[n]? = some c:=⟨_,Array.getElem?_eq_getElem (by have : n < s.size:=by omega
                                                                                exact this)⟩
      simp only [ZB,insVc,iopK,iopV,sidxK,ne_eq,Nat.reduceEqDiff,reduceCtorEq,Zbn,Zbj,show (((n + 1 : Nat) : Int) > 0) by omega,h0,h4,hw,hc]
      refine ⟨by omega,condP_split ?_ ?_⟩
      · intro hne
        have hne' : c≠255:=by
          rintro rfl
          simp at hne
        have haf : after s = (s.extract 0 n ++ big (c + 1).toNat 1,true):=by
          rw [ha]; simp [afterN,hc,hne']
        simp only [ZB]
        refine draw_s (fun w''=>Mod (fun _=>False) w' w'') (by kernel_rfl) (by kernel_rfl) (by kernel_rfl) (Mod.refl _ _).drew ?_
        have hc1 : IntKind.u8.wrap ((c.toNat : Int) + 1) = ((c + 1).toNat : Int):=by
          rw [IntKind.wrap_u8,UInt8.toNat_add]; rfl
        simp only [ZB,endK,resK,packed,insVc,iopK,iopV,sopK,sopV,boundOf,slSK,ne_eq,Nat.reduceEqDiff,reduceCtorEq,Zbn,Zbu,Zaa,Zav,Zbj,vcS_nil,vcS_cons,stepB_true,stepB_false,pureI,h0,h4,hw,hc1]
        refine ⟨by omega, ?_⟩
        refine look_call (.string (big (c + 1).toNat 1)) (fun w1 hw1 => ?_) ?_
        · simp only [ZB,Zad,Zac]
          exact wone_c _ w1 _ (UInt8.toNat_lt _) fun w2 hm=>⟨rfl,hw1.trans hm⟩
        have hmax : ¬ (((s.extract 0 n).size + (big (c + 1).toNat 1).size : Nat) : Int) > IntKind.i64.max:=by
          rw [big_size,ByteArray.size_extract]
          have : IntKind.i64.max = 9223372036854775807:=rfl
          rw [this]; omega
        simp only [loadV_some,Zae,hmax]
        intro w1 hw1
        rw [haf] at h
        exact h w1 hw1
      · intro he
        have he' : c = 255:=by
          have h1 : (c.toNat : Int) = 255:=by simpa using he
          exact UInt8.toNat_inj.1 (show c.toNat = 255 by omega)
        subst he'
        simp only [ZB,insVc,iopK,iopV,ne_eq,Nat.reduceEqDiff,reduceCtorEq,h0,h4,hw]
        refine ⟨n,by omega,by omega,rfl, ?_⟩
        rw [ha]; simp [afterN,hc]
def underK (sort : ByteArray) (l : List Pt) : ByteArray × ByteArray :=
  if (keyL (str sort :: l) []).2≠0 then (e0,e0) else ((keyL (str sort :: l) []).1,(after (keyL (str sort :: l) []).1).1)
theorem keyL_size : ∀ (l : List Pt) (acc : List UInt8),acc.length≤255→(keyL l acc).1.size≤255:=by
  intro l
  induction l with
  | nil=>intro acc h; simpa [keyL,ByteArray.size] using h
  | cons p l ih =>
    intro acc h
    unfold keyL
    split
    · simp [e0,ByteArray.size]
    · exact ih _ (by omega)
theorem under_c (sort : ByteArray) (l : List Pt) (v : Value) (m : Int) (w : World) (K : Value→World→Prop) (hg : Gl m w) (hv : IsArg w v l) (hl : l.length < 2 ^ 20) (hs : sort.size < 4294967281) (hp : ∀ p ∈ l,p.good)
    (h : ∀ w',Mod (fun _=>False) w w'→K (.tuple #[.string (underK sort l).1,.string (underK sort l).2]) w') :
    Ok Proofs.Tryz.prog 141 #[.string sort,v] w K:=by
  refine F141.enter (args:=[.string sort,v]) (by simp) ?_
  unfold c141 r141
  simp only [ZB,insVc,ne_eq,Nat.reduceEqDiff,reduceCtorEq,Zaf,Zad,Zac,Za,Zag]
  refine key_c sort l v m w _ hg hv hl hs hp ?_
  intro w1 hm1
  simp only [ZB,insVc,iopK,iopV,extK,ne_eq,Nat.reduceEqDiff,reduceCtorEq,Za,Zag,Zah]
  refine condP_split ?_ ?_
  · intro he
    have he' : (keyL (str sort :: l) []).2≠0:=by simpa using he
    simp only [ZB,endK,resK,packed,insVc,ne_eq,Nat.reduceEqDiff,Zaa,Zav]
    unfold underK at h
    rw [if_pos he'] at h
    exact h w1 hm1
  · intro he
    have he' : (keyL (str sort :: l) []).2 = 0:=by simpa using he
    simp only [ZB,insVc,ne_eq,Nat.reduceEqDiff,Zad,Zac]
    unfold underK at h
    rw [if_neg (by simpa using he')] at h
    refine after_c _ w1 _ (by have:=keyL_size (str sort :: l) [] (by simp); omega) ?_
    intro w2 hm2
    simp only [ZB,endK,resK,packed,insVc,extK,ne_eq,Nat.reduceEqDiff,Za,Zag,Zah,Zaa,Zav]
    exact h w2 (hm1.trans hm2)
end Go.Oct
namespace Go.Oct
open Go Go.Vc Go.VrA
set_option maxRecDepth 100000
structure Qu where
  name : ByteArray
  most : Nat
  ttl : Nat
  tries : Nat
  dead : ByteArray
def Qu.cells (q : Qu) : List Value:=[.string q.name,.int .u32 q.most,.int .u64 q.ttl,.int .u32 q.tries,.string q.dead]
def Qu.val (q : Qu) : Value:=.agg q.cells.toArray
def q0 : Qu:=⟨e0,0,0,0,e0⟩
def Qu.good (q : Qu) : Prop:=q.most < 2 ^ 32∧q.ttl < 2 ^ 64∧q.tries < 2 ^ 32∧q.dead.size < 2 ^ 60
def qput (q : Qu) : ByteArray:=big q.most 4 ++ big q.ttl 8 ++ big q.tries 4 ++ textB q.dead
def qget (name : ByteArray) (r : Rd) : Qu × Rd :=
  let a:=number r 4
  let b:=number a.2 8
  let c:=number b.2 4
  let d:=text c.2 32
  (⟨name,a.1 % 2 ^ 32,b.1,c.1 % 2 ^ 32,d.1⟩,d.2)
def ver (r : Rd) : Rd:=if (number r 1).1 % 256≠1 then fail (number r 1).2 4 else (number r 1).2
def qread (name s : ByteArray) : Qu × Int :=
  let x:=qget name (ver (s,0))
  if ende x.2≠0 then (q0,ende x.2) else (x.1,0)
def qbytes (q : Qu) : ByteArray:=big 1 1 ++ qput q
theorem number_size (r : Rd) (n : Int) : (number r n).2.1.size≤r.1.size:=take_size r n
theorem fail_size (r : Rd) (e : Int) : (fail r e).1.size = r.1.size:=by unfold fail; split <;> rfl
theorem ver_size (r : Rd) : (ver r).1.size≤r.1.size:=by
  unfold ver
  split
  · rw [fail_size]; exact number_size r 1
  · exact number_size r 1
theorem textB_size (s : ByteArray) : (textB s).size = 4 + s.size:=by simp [textB,big_size,ByteArray.size_append]
theorem imax : IntKind.i64.max = 9223372036854775807:=rfl
theorem qput_c (q : Qu) (w : World) (K : Value→World→Prop) (hq : q.good) (h : ∀ w',Mod (fun _=>False) w w'→K (.string (qput q)) w') :
    Ok Proofs.Tryz.prog 222 #[q.val] w K:=by
  refine F222.enter (args:=[q.val]) (by simp) ?_
  unfold c222 r222
  simp only [ZB,insVc,Value.cells,Zaf,Za,Qu.val,Qu.cells]
  have hb0 : (w.alloc (.cells #[.string q.name,.int .u32 q.most,.int .u64 q.ttl,.int .u32 q.tries,.string q.dead] 121)).drew.heap[w.heap.size]? = some (.cells #[.string q.name,.int .u32 q.most,.int .u64 q.ttl,.int .u32 q.tries,.string q.dead] 121 (0,0)):=get_alloc_new _ _
  have hm0 : Mod (fun _=>False) w (w.alloc (.cells #[.string q.name,.int .u32 q.most,.int .u64 q.ttl,.int .u32 q.tries,.string q.dead] 121)).drew:=((Mod.refl _ _).alloc _).drew
  refine draw_d (fun w'=>w'.heap[w.heap.size]? = some (.cells #[.string q.name,.int .u32 q.most,.int .u64 q.ttl,.int .u32 q.tries,.string q.dead] 121 (0,0))) (by kernel_rfl) (by kernel_rfl) (by kernel_rfl) (by kernel_rfl) hb0 ?_
  generalize (w.alloc (.cells #[.string q.name,.int .u32 q.most,.int .u64 q.ttl,.int .u32 q.tries,.string q.dead] 121)).drew = w1 at *
  simp only [ZB,endK,resK,packed,insVc,sopK,sopV,faddrK,ne_eq,Nat.reduceEqDiff,Zad,Zac,Zaa,Zab,Zae,pureI,vcD_nil,vcD_cons,stepD_pure,stepD_load,stepD_step,kindI,loadI]
  refine loadD1 (b:=w.heap.size) (o:=1) (v:=.int .u32 q.most) rfl (fun w' hw'=>⟨_,_,_,hw',rfl⟩) ?_
  refine wfour_c q.most w1 _ hq.1 ?_
  intro w2 hm2
  refine ⟨hm2.keep hb0 id, ?_⟩
  refine loadD1 (b:=w.heap.size) (o:=2) (v:=.int .u64 q.ttl) rfl (fun w' hw'=>⟨_,_,_,hw',rfl⟩) ?_
  refine weight_c q.ttl w2 _ hq.2.1 ?_
  intro w3 hm3
  refine ⟨hm3.keep (hm2.keep hb0 id) id, ?_⟩
  have x1 : ¬ (((big q.most 4).size + (big q.ttl 8).size : Nat) : Int) > IntKind.i64.max:=by simp only [big_size,imax]; omega
  simp only [loadV_some,Zae,x1]
  refine loadD1 (b:=w.heap.size) (o:=3) (v:=.int .u32 q.tries) rfl (fun w' hw'=>⟨_,_,_,hw',rfl⟩) ?_
  refine wfour_c q.tries w3 _ hq.2.2.1 ?_
  intro w4 hm4
  refine ⟨hm4.keep (hm3.keep (hm2.keep hb0 id) id) id, ?_⟩
  have x2 : ¬ (((big q.most 4 ++ big q.ttl 8).size + (big q.tries 4).size : Nat) : Int) > IntKind.i64.max:=by simp only [Zbs,big_size,imax]; omega
  simp only [loadV_some,Zae,x2]
  refine loadD1 (b:=w.heap.size) (o:=4) (v:=.string q.dead) rfl (fun w' hw'=>⟨_,_,_,hw',rfl⟩) ?_
  refine wtext_c q.dead w4 _ (by have:=hq.2.2.2; omega) ?_
  intro w5 hm5
  refine ⟨hm5.keep (hm4.keep (hm3.keep (hm2.keep hb0 id) id) id) id, ?_⟩
  have x3 : ¬ (((big q.most 4 ++ big q.ttl 8 ++ big q.tries 4).size + (textB q.dead).size : Nat) : Int) > IntKind.i64.max:=by
    have:=hq.2.2.2
    simp only [Zbs,big_size,textB_size,imax]; omega
  simp only [loadV_some,Zae,x3]
  exact h w5 (((((hm0.trans hm2).trans hm3).trans hm4).trans hm5))
end Go.Oct
