import Derived.Test.YtbkddpckkgbbmaaGreatDoorVqJ
import Derived.Laws.StructEq
import Derived.Test.YtbkddpckkgbbmaaGreatDoorVfV
set_option linter.unusedSimpArgs false
set_option linter.unusedVariables false
set_option linter.unusedSectionVars false
set_option linter.unnecessarySimpa false
namespace Go.Oct
open Go Go.Vc Go.VrA Go.VrB Go.VrC
set_option maxRecDepth 100000
def Ms.any (y : Ms) : Prop:=y.id < 2 ^ 64∧y.expiry < 2 ^ 64∧y.tries < 2 ^ 32
end Go.Oct
namespace Go.Oct
open Go Go.Vc Go.VrA Go.VrB Go.VrC
set_option maxRecDepth 100000
end Go.Oct
namespace Go.Oct
open Go Go.Vc Go.VrA Go.VrF
set_option maxRecDepth 100000
def aggD : TypeDesc→Bool
  | .struct _=>true
  | .array _ _=>true
  | _=>false
theorem part_at (cs : Array Value) (w : World) (t : TypeId) (d : TypeDesc) (o : Nat) (v : Value) (ht : Proofs.Tryz.prog.underlying t = some d) (hd : aggD d = false) (hv : cs[o]? = some v) : (part t cs o).run Proofs.Tryz.prog w = .ok v w:=by
  unfold part
  have hag : (isAgg t).run Proofs.Tryz.prog w = .ok false w:=by
    unfold isAgg
    rw [Sem.run_bind,run_underlying ht]
    cases d <;> first | rfl | cases hd
  rw [Sem.run_bind,hag]
  simp only [Result.andThen,Bool.false_eq_true,Zag,hv]
  rfl
theorem eqF_step (xs ys : Array Value) (w : World) (f : Field) (fs : List Field) (d : TypeDesc) (u v : Value) (e r : Bool) (hn : f.name≠"_") (ht : Proofs.Tryz.prog.underlying f.type = some d) (hd : aggD d = false)
    (hx : xs[f.offset]? = some u) (hy : ys[f.offset]? = some v) (he : (Op.equalIn 9999 f.type u v).run Proofs.Tryz.prog w = .ok e w) (hfs : (Op.eqFields 9999 xs ys fs).run Proofs.Tryz.prog w = .ok r w) : (Op.eqFields 9999 xs ys (f :: fs)).run Proofs.Tryz.prog w = .ok (e && r) w:=by
  unfold Op.eqFields
  rw [if_pos hn]
  simp only [Sem.run_bind,part_at xs w _ d _ u ht hd hx,part_at ys w _ d _ v ht hd hy,Result.andThen,he]
  cases e with
  | true=>simpa using hfs
  | false=>rfl
def eqBi (a b : Bi) : Bool:=(a.ex.toList == b.ex.toList) && ((a.kind == b.kind) && ((a.key.toList == b.key.toList) && ((a.q.toList == b.q.toList) && true)))
theorem fields_bi : ((Proofs.Tryz.prog.fieldsOf 64).toList.map fun f=>(f.name,f.type,f.offset)) = [("Exchange",9,0),("Kind",3,1),("Key",9,2),("Queue",9,3)]:=by kernel_rfl
theorem under_bi : Proofs.Tryz.prog.underlying 64 = some (.struct (Proofs.Tryz.prog.fieldsOf 64)):=by kernel_rfl
theorem run_eq_bi (a b : Bi) (w : World) : (Op.equalIn 10000 64 (.agg a.cells.toArray) (.agg b.cells.toArray)).run Proofs.Tryz.prog w = .ok (eqBi a b) w:=by
  have hu9 : Proofs.Tryz.prog.underlying 9 = some .string:=by kernel_rfl
  have hu3 : Proofs.Tryz.prog.underlying 3 = some (.int .i64):=by kernel_rfl
  rw [run_equalIn_struct (ht:=under_bi) (hp:=by kernel_rfl)]
  have key : ∀ (fs : List Field),(fs.map fun f=>(f.name,f.type,f.offset)) = [("Exchange",9,0),("Kind",3,1),("Key",9,2),("Queue",9,3)]→(Op.eqFields 9999 a.cells.toArray b.cells.toArray fs).run Proofs.Tryz.prog w = .ok (eqBi a b) w:=by
    intro fs h
    obtain ⟨f0,fs,rfl,h0,h⟩:=List.map_eq_cons_iff.1 h
    obtain ⟨f1,fs,rfl,h1,h⟩:=List.map_eq_cons_iff.1 h
    obtain ⟨f2,fs,rfl,h2,h⟩:=List.map_eq_cons_iff.1 h
    obtain ⟨f3,fs,rfl,h3,h⟩:=List.map_eq_cons_iff.1 h
    obtain rfl:=List.map_eq_nil_iff.1 h
    simp only [Prod.mk.injEq] at h0 h1 h2 h3
    refine eqF_step _ _ w f0 _ .string (.string a.ex) (.string b.ex) _ _ (by rw [h0.1]; decide) (by rw [h0.2.1]; exact hu9) rfl (by rw [h0.2.2]; rfl) (by rw [h0.2.2]; rfl) (by rw [h0.2.1,run_equalIn_string _ _ _ _ _ hu9]) ?_
    refine eqF_step _ _ w f1 _ (.int .i64) (.int .i64 a.kind) (.int .i64 b.kind) _ _ (by rw [h1.1]; decide) (by rw [h1.2.1]; exact hu3) rfl (by rw [h1.2.2]; rfl) (by rw [h1.2.2]; rfl) (by rw [h1.2.1,run_equalIn_int _ _ _ _ _ _ _ hu3]) ?_
    refine eqF_step _ _ w f2 _ .string (.string a.key) (.string b.key) _ _ (by rw [h2.1]; decide) (by rw [h2.2.1]; exact hu9) rfl (by rw [h2.2.2]; rfl) (by rw [h2.2.2]; rfl) (by rw [h2.2.1,run_equalIn_string _ _ _ _ _ hu9]) ?_
    refine eqF_step _ _ w f3 _ .string (.string a.q) (.string b.q) _ _ (by rw [h3.1]; decide) (by rw [h3.2.1]; exact hu9) rfl (by rw [h3.2.2]; rfl) (by rw [h3.2.2]; rfl) (by rw [h3.2.1,run_equalIn_string _ _ _ _ _ hu9]) ?_
    rfl
  exact key _ fields_bi
theorem rawK_neq_bi {go : Value→World→Prop} {ρ : Env} {ds : List Deferred} {n : Nat} {o : Oper} {w : World} {x y : Operand} (a b : Bi) (ho : o.op = .binOp .neq 64 x y 64)
    (hx : inB n x = true) (hy : inB n y = true) (ha : ev ρ x = .agg a.cells.toArray) (hb : ev ρ y = .agg b.cells.toArray) (h : go (.bool (!eqBi a b)) w) : RawK Proofs.Tryz.prog go ρ ds n o w:=by
  unfold RawK
  simp only [execOp,ho,mkA_eval n ρ ds x hx,mkA_eval n ρ ds y hy,ha,hb,Sem.run_bind,run_eqGuard_agg w .neq 64 x y _ _ (by kernel_rfl : Proofs.Tryz.prog.eqGuardType Proofs.Tryz.prog.depth 64 = false),Result.andThen,run_neq_struct,run_eq_bi]
  exact h
theorem rawK_eql_bi {go : Value→World→Prop} {ρ : Env} {ds : List Deferred} {n : Nat} {o : Oper} {w : World} {x y : Operand} (a b : Bi) (ho : o.op = .binOp .eql 64 x y 64)
    (hx : inB n x = true) (hy : inB n y = true) (ha : ev ρ x = .agg a.cells.toArray) (hb : ev ρ y = .agg b.cells.toArray) (h : go (.bool (eqBi a b)) w) : RawK Proofs.Tryz.prog go ρ ds n o w:=by
  unfold RawK
  simp only [execOp,ho,mkA_eval n ρ ds x hx,mkA_eval n ρ ds y hy,ha,hb,Sem.run_bind,run_eqGuard_agg w .eql 64 x y _ _ (by kernel_rfl : Proofs.Tryz.prog.eqGuardType Proofs.Tryz.prog.depth 64 = false),Result.andThen,run_eql_struct,run_eq_bi]
  exact h
end Go.Oct
namespace Go.Oct
open Go Go.Vc Go.VrA Go.VrF
set_option maxRecDepth 100000
def unbL (x : Bi) (l : List Bi) : List Bi:=l.filter fun y => !(eqBi y x)
def Bk.unbind (B : Bk) (x : Bi) : Int × Bk:=if (unbL x B.bs).length = B.bs.length then (21,B) else (0,{ B with bs:=unbL x B.bs })
noncomputable def c75l : CC:=subC c75 [1,1,0]
theorem unb_loop (bk xb : Nat) (l : List Bi) (x : Bi) (a : Option Addr) (cp : Nat) (vb vx : Value) (w : World) (Q : QT) (ρ0 : Env) (hb : w.heap[bk]? = some (.cells #[vb,.slice a l.length cp,vx] 73 (0,0))) (ht : IsT Bi.cells 4 w (.slice a l.length cp) l) (hl : l.length < 2 ^ 20)
    (h0 : ρ0 0 = ptr bk) (h3 : ρ0 3 = ptr xb) (hxb : w.heap[xb]? = some (.cells #[.string x.ex,.int .i64 x.kind,.string x.key,.string x.q] 64 (0,0))) (h5 : ρ0 5 = .slice none 0 0)
    (h : ∀ w' ρ' v,Mod (fun _=>False) w w'→w'.ownsRow w.heap.size 64 4 v (unbL x l).length ((unbL x l).flatMap Bi.cells)→ρ' 0 = ptr bk→ρ' 3 = ptr xb→ρ' 5 = v→Q .normal ρ' [] w') :
    vc Proofs.Tryz.prog none 37 c75l Q ρ0 [] w:=by
  have hat:=ht.2
  unfold c75l
  simp only [ZB,subC,c75,insVc,load1K,nilK,faddrK,lenLK,Za,Zaf,Zah,h0,hb]
  refine vc_loop (fun mm ρ ds u => ∃ i v,i≤l.length∧mm = l.length - i∧ds = []∧ρ 0 = ptr bk∧ρ 3 = ptr xb∧ρ 5 = v∧ρ 11 = .slice a l.length cp∧ρ 12 = .int .i64 l.length∧ρ 13 = .int .i64 i ∧
    Mod (fun _=>False) w u∧u.ownsRow w.heap.size 64 4 v (unbL x (l.take i)).length ((unbL x (l.take i)).flatMap Bi.cells)) (l.length - 0) ?_ ?_
  · exact ⟨0,.slice none 0 0,Nat.zero_le _,rfl,rfl,by simp only [ZB,ne_eq,reduceCtorEq,h0],by simp only [ZB,ne_eq,Nat.reduceEqDiff,h3],by simp only [ZB,ne_eq,Nat.reduceEqDiff,h5],by simp only [ZB,ne_eq,Nat.reduceEqDiff],by simp only [ZB,ne_eq,Nat.reduceEqDiff],by simp only [ZB] <;> rfl,Mod.refl _ _,World.ownsRow_nil _ _ _ 4⟩
  · rintro mm ρ ds u ⟨i,v,hi,rfl,rfl,g0,g1,g5,g18,g19,g20,hmu,hown⟩
    by_cases c1 : i < l.length
    · have d1 : (i : Int) < ((l.length : Nat) : Int):=by omega
      obtain ⟨q,hqi⟩ : ∃ q,l[i]? = some q:=⟨l[i],List.getElem?_eq_getElem c1⟩
      obtain ⟨b,o,c,cur,t,f,he,hbh,hsz,hex⟩:=hat i q hqi
      have ha' : a = some ⟨b,o,none⟩:=by simpa using congrArg (fun x=>match x with | .slice a _ _=>a | _=>none) he
      subst ha'
      have hbu:=hmu.keep hbh id
      have hi0' : (0 : Int)≤(i : Int)∧(i : Int) < ((l.length : Nat) : Int):=by omega
      have hw1 : IntKind.i64.wrap ((i : Int) + 1) = ((i + 1 : Nat) : Int):=by rw [wrap_i64 _ (by omega)]; omega
      have htk : l.take (i + 1) = l.take i ++ [q]:=by rw [List.take_add_one,hqi]; rfl
      have hkq : unbL x (l.take (i + 1)) = unbL x (l.take i) ++ unbL x [q]:=by rw [htk,unbL,List.filter_append]; rfl
      have hkl : (unbL x (l.take i)).length≤i:=Nat.le_trans (List.length_filter_le _ _) (by rw [List.length_take]; omega)
      rw [Nat.add_assoc] at hsz hex
      have hms:=hmu.size
      obtain ⟨u1,hu1⟩ : ∃ u1,u1 = Vc.set (u.alloc (.cells #[.string ⟨#[]⟩,.int .i64 0,.string ⟨#[]⟩,.string ⟨#[]⟩] 64)) u.heap.size (.cells #[.string q.ex,.int .i64 q.kind,.string q.key,.string q.q] 64):=⟨_,rfl⟩
      have hmu1 : Mod (fun _=>False) u u1:=by rw [hu1]; exact ((Mod.refl _ _).alloc _).set (.inl (Nat.le_refl _))
      have pu1 : u1.heap[u.heap.size]? = some (.cells #[.string q.ex,.int .i64 q.kind,.string q.key,.string q.q] 64 (0,0)):=by rw [hu1]; exact get_set_same _ _ _ (by simp only [size_alloc]; omega)
      have hms1:=hmu1.size
      have hz1 : u1.heap.size = u.heap.size + 1:=by rw [hu1]; simp only [size_set,size_alloc,size_alloc,size_set]
      have hxl:=lt_of_get hxb
      have hxu : u1.heap[xb]? = some (.cells #[.string x.ex,.int .i64 x.kind,.string x.key,.string x.q] 64 (0,0)):=hmu1.keep (hmu.keep hxb id) id
      have hxu':=hxu
      rw [hu1] at hxu'
      simp only [ZB,insVc,loadNK,storeNK,setMany,iopK,iopV,iaddrK,isPlain,Value.cells,ne_eq,Nat.reduceEqDiff,Nat.reduceAdd,Nat.reduceLeDiff,reduceCtorEq,Zak,Zai,Zaj,Zal,Zam,Zan,Zac,Zax,Zb,Zaz,Zav,Zar,Zay,Zaw,Zas,Zat,Zau,Zbe,Zao,get_alloc,Zaq,Nat.reduceAdd,Nat.reduceEqDiff,g1,g18,g19,g20,d1,hi0',hbu,hsz,hex,Bi.cells,hxu']
      rw [← hu1]
      refine rawK_neq_bi q x rfl rfl rfl (by simp only [ZB,ne_eq,Nat.reduceEqDiff] <;> rfl) (by simp only [ZB] <;> rfl) ?_
      by_cases hq : eqBi q x = true
      · have hk1 : unbL x [q] = []:=by simp [unbL,hq]
        rw [hk1,List.append_nil] at hkq
        simp only [ZB,insVc,iopK,iopV,ne_eq,Nat.reduceEqDiff,reduceCtorEq,hq,g0,g1,g5,g18,g19,g20,hw1]
        refine ⟨l.length - (i + 1),by omega,i + 1,v,by omega,rfl,rfl,rfl,hmu.trans hmu1, ?_⟩
        rw [hkq]
        exact own_mod hown hmu1 (fun _ _=>id)
      · have b1 : eqBi q x = false:=by simpa using hq
        have hk1 : unbL x [q] = [q]:=by simp [unbL,b1]
        rw [hk1] at hkq
        obtain ⟨v5,u5,hr5,ho5,hm5,hb5⟩:=append_bi w.heap.size v (unbL x (l.take i)) q u1 (own_mod hown hmu1 (fun _ _=>id)) (by omega) (by omega) 70
        simp only [ZB,insVc,loadNK,fillL,buildSK,Value.cells,ne_eq,Nat.reduceEqDiff,Nat.reduceAdd,Nat.reduceLeDiff,Zak,Zai,Zaj,Zbc,Zbd,Zba,Zbb,Zal,Zam,Zan,Zbf,Zac,Zb,Zaz,Zav,Zar,Zay,Zaw,b1,g5,pu1]
        refine rawK_append rfl rfl rfl (by simp only [ZB,ne_eq,Nat.reduceEqDiff]; exact hr5) ?_
        have hob : ∀ k,v.ownBlock = some k→w.heap.size≤k:=fun k hk=>(World.ownsRow.lt hown k hk).1
        simp only [ZB,insVc,iopK,iopV,ne_eq,Nat.reduceEqDiff,reduceCtorEq,g0,g1,g18,g19,g20,hw1]
        exact ⟨l.length - (i + 1),by omega,i + 1,v5,by omega,rfl,rfl,rfl,(hmu.trans hmu1).then hm5 (fun k hk x=>by have:=hob k x; omega),by rw [hkq]; exact ho5⟩
    · have d1 : ¬ (i : Int) < ((l.length : Nat) : Int):=by omega
      have hie : i = l.length:=by omega
      rw [hie,List.take_length] at hown
      simp only [ZB,insVc,iopK,iopV,reduceCtorEq,g19,g20,d1]
      exact h u _ v hmu hown g0 g1 g5
theorem c75_s : c75 = .seq (subC c75 [0]) (.seq (subC c75 [1,0]) (.seq c75l (subC c75 [1,1,1]))):=rfl
theorem bunbind_c (bk : Nat) (B : Bk) (x : Bi) (w : World) (K : Value→World→Prop) (hb : BookAt w bk B) (hl2 : B.bs.length < 2 ^ 20)
    (h : ∀ w',Mod (fun k=>k = bk) w w'→BookAt w' bk (B.unbind x).2→K (.int .i64 (B.unbind x).1) w') :
    Ok Proofs.Tryz.prog 75 #[ptr bk,x.val] w K:=by
  have hbk : bk < w.heap.size:=by obtain ⟨_,_,_,h1,_⟩:=hb; exact lt_of_get h1
  refine F75.enter (args:=[ptr bk,x.val]) (by simp) ?_
  rw [c75_s]
  unfold r75
  simp only [ZB,subC,c75,insVc,Value.cells,Zab,Za,Zaf,Bi.val,Bi.cells]
  refine vc_gen2 ?_
  intro w1 hw1
  have hm1 : Mod (fun _=>False) w w1:=by rw [hw1]; exact (Mod.refl _ _).alloc _
  have hx1 : w1.heap[w.heap.size]? = some (.cells #[.string x.ex,.int .i64 x.kind,.string x.key,.string x.q] 64 (0,0)):=by rw [hw1]; exact get_alloc_new _ _
  clear hw1
  have hb1:=hb.keep hm1
  obtain ⟨vq,vb,vx,h1,h2,h3,h4⟩:=hb1
  obtain ⟨a,cp,rfl,_,_⟩:=map_add0 h3
  have hz1:=hm1.size
  refine unb_loop bk w.heap.size B.bs x a cp vq vx w1 _ _ h1 (isT_own (s:=4) (fun _=>rfl) (by decide) h3) hl2 (by simp only [ZB,ne_eq,reduceCtorEq,Zab,Za]) (by simp only [ZB,ne_eq,Nat.reduceEqDiff]) hx1 (by simp only [ZB]) ?_
  intro w2 ρ2 v hm2 ho2 r0 r3 r5
  have h1':=hm2.keep h1 id
  have hm12:=hm1.trans hm2
  have hplv:=own_plain ho2
  obtain ⟨a2,cp2,rfl,_,_⟩:=map_add0 ho2
  unfold Bk.unbind at h
  simp only [ZB,insVc,load1K,nilK,iopK,iopV,faddrK,lenLK,ne_eq,Nat.reduceEqDiff,reduceCtorEq,Za,Zaf,Zah,r0,r5,h1']
  by_cases he : (unbL x B.bs).length = B.bs.length
  · have q0 : ((((unbL x B.bs).length : Nat) : Int) == ((B.bs.length : Nat) : Int)) = true:=by rw [he]; simp
    rw [if_pos he] at h
    simp only [ZB,endK,resK,packed,insVc,Zaa,q0]
    exact h w2 (hm12.mono fun _ _ x=>x.elim) (hb.keep hm12)
  · have q0 : ((((unbL x B.bs).length : Nat) : Int) == ((B.bs.length : Nat) : Int)) = false:=by rw [beq_eq_false_iff_ne]; omega
    rw [if_neg he] at h
    have hst : Mod (fun k=>k = bk) w2 (Vc.set w2 bk (.cells #[vq,.slice a2 (unbL x B.bs).length cp2,vx] 73 (0,0))):=(Mod.refl _ _).set (.inr rfl)
    simp only [ZB,endK,resK,packed,insVc,storeK,nilK,faddrK,isPlain,ne_eq,Nat.reduceEqDiff,Nat.reduceAdd,Nat.reduceLT,Nat.reduceLeDiff,reduceCtorEq,Zak,Zai,Zaj,Zal,Zam,Zan,Zaa,q0,r0,r5,h1']
    refine h _ ((hm12.mono fun _ _ x=>x.elim).trans hst) ⟨vq,_,vx,get_set_same _ _ _ (lt_of_get h1'), ?_, ?_, ?_⟩
    · exact own_mod (own_mod h2 hm2 (fun _ _=>id)) hst (fun k hk x=>by have:=(World.ownsRow.lt h2 k hk).1; omega)
    · exact own_lo (own_mod ho2 hst (fun k hk x=>by have:=(World.ownsRow.lt ho2 k hk).1; omega)) (by omega)
    · exact own_mod (own_mod h4 hm2 (fun _ _=>id)) hst (fun k hk x=>by have:=(World.ownsRow.lt h4 k hk).1; omega)
end Go.Oct
namespace Go.Oct
open Go Go.Vc Go.VrA Go.VrF
set_option maxRecDepth 100000
def leB (x y : List UInt8) : Bool:=Op.bytesLess x y || x == y
def wgo (x : List UInt8) : Bool→List (List UInt8)→List (List UInt8)
  | dn,[]=>if dn = true then [] else [x]
  | dn,y :: r=>(if (!dn && leB x y) = true then [x] else []) ++ ((if (x == y) = true then [] else [y]) ++ wgo x (dn || leB x y) r)
theorem wgo_true (x : List UInt8) : ∀ (l : List (List UInt8)),(∀ y ∈ l,x < y)→wgo x true l = l:=by
  intro l
  induction l with
  | nil=>intro _; rfl
  | cons y r ih =>
    intro h
    have hy:=h y (List.mem_cons_self ..)
    have hne : (x == y) = false:=by
      rw [beq_eq_false_iff_ne]
      rintro rfl
      exact List.lt_irrefl _ hy
    rw [wgo,hne,Bool.true_or,ih (fun z hz=>h z (List.mem_cons_of_mem _ hz))]
    simp
theorem wgo_rise (x : List UInt8) : ∀ (l : List (List UInt8)),Rise l→wgo x false l = insL x l:=by
  intro l
  induction l with
  | nil=>intro _; rfl
  | cons a r ih =>
    intro h
    have h':=List.pairwise_cons.1 h
    rw [wgo,insL]
    by_cases ha : a < x
    · have h1 : leB x a = false:=by
        unfold leB
        rw [Go.Proofs.bytesLess_eq]
        have e1 : decide (x < a) = false:=decide_eq_false (fun hx=>List.lt_irrefl _ (List.lt_trans hx ha))
        have e2 : (x == a) = false:=by rw [beq_eq_false_iff_ne]; rintro rfl; exact List.lt_irrefl _ ha
        rw [e1,e2]; rfl
      have h2 : (x == a) = false:=by rw [beq_eq_false_iff_ne]; rintro rfl; exact List.lt_irrefl _ ha
      rw [if_pos ha,h1,h2,Bool.or_false,ih h'.2]
      simp
    · rw [if_neg ha]
      by_cases e : a = x
      · subst e
        have h1 : leB a a = true:=by simp [leB]
        rw [h1,if_pos rfl,Bool.or_true,wgo_true a r h'.1]
        simp
      · have hx : x < a:=by
          by_cases h : x < a
          · exact h
          · exact absurd (List.le_antisymm (List.not_lt.1 h) (List.not_lt.1 ha)) e
        have h1 : leB x a = true:=by
          unfold leB
          rw [Go.Proofs.bytesLess_eq,decide_eq_true hx]; rfl
        have h2 : (x == a) = false:=by rw [beq_eq_false_iff_ne]; exact fun h=>e h.symm
        rw [h1,h2,if_neg e,Bool.or_true,wgo_true x r (fun y hy=>List.lt_trans hx (h'.1 y hy))]
        simp
theorem rwith21_c (l : List (List UInt8)) (x : ByteArray) (v0 : Value) (w : World) (K : Value→World→Prop) (hv : IsSl w v0 (stV l)) (hl : l.length < 2 ^ 18)
    (h : ∀ w' v,Mod (fun _=>False) w w'→w'.ownsRow w.heap.size 9 1 v (wgo x.data.toList false l).length (stV (wgo x.data.toList false l))→K v w') :
    Ok Proofs.Tryz.prog 146 #[v0,.string x] w K:=by
  obtain ⟨⟨a,cp,rfl⟩,hat⟩:=hv
  rw [stV_len] at hat ⊢
  refine F146.enter (args:=[.slice a l.length cp,.string x]) (by simp) ?_
  unfold c146 r146
  simp only [ZB,insVc,lenLK,ne_eq,reduceCtorEq,Zab,Za]
  have hx : (⟨x.data.toList.toArray⟩ : ByteArray) = x:=by cases x; simp
  have app : ∀ (u : World) (v : Value) (O : List (List UInt8)) (z : ByteArray),u.ownsRow w.heap.size 9 1 v O.length (stV O)→O.length < 2 ^ 20→w.heap.size≤u.heap.size →
      ∃ v' u',(Builtin.append_ #[80,80] 80 #[v,.slice (some ⟨u.heap.size,0,none⟩) 1 1]).run Proofs.Tryz.prog (u.alloc (.cells #[.string z] 9)) = .ok v' u'∧u'.ownsRow w.heap.size 9 1 v' (O ++ [z.data.toList]).length (stV (O ++ [z.data.toList]))∧Mod (fun k=>v.ownBlock = some k) u u':=by
    intro u v O z ho hO hs
    obtain ⟨v5,u5,hr5,ho5,hm5,_⟩:=append_st w.heap.size v O.length _ z u ho hs hO 80
    have hz : (⟨z.data.toList.toArray⟩ : ByteArray) = z:=by cases z; simp
    refine ⟨v5,u5,hr5, ?_,hm5⟩
    have e1 : stV (O ++ [z.data.toList]) = stV O ++ [.string z]:=by simp [stV,hz]
    rw [e1,List.length_append]
    exact ho5
  refine vc_loop (fun mm ρ ds u => ∃ i v O dn,i≤l.length∧mm = l.length - i∧ds = []∧ρ 1 = .string x∧ρ 5 = v∧ρ 6 = .bool dn∧ρ 9 = .slice a l.length cp∧ρ 10 = .int .i64 l.length∧ρ 11 = .int .i64 i ∧
    Mod (fun _=>False) w u∧u.ownsRow w.heap.size 9 1 v O.length (stV O)∧O.length≤2 * i∧wgo x.data.toList false l = O ++ wgo x.data.toList dn (l.drop i)) (l.length - 0) ?_ ?_
  · exact ⟨0,.slice none 0 0,[],false,Nat.zero_le _,rfl,rfl,by simp only [ZB,ne_eq,Nat.reduceEqDiff,Zab,Za,Zaf],by simp only [ZB,ne_eq,Nat.reduceEqDiff],by simp only [ZB,ne_eq,Nat.reduceEqDiff],by simp only [ZB,ne_eq,Nat.reduceEqDiff],by simp only [ZB,ne_eq,Nat.reduceEqDiff],by simp only [ZB] <;> rfl,Mod.refl _ _,World.ownsRow_nil _ _ _ 1,Nat.le_refl _,by simp⟩
  · rintro mm ρ ds u ⟨i,v,O,dn,hi,rfl,rfl,g1,g5,g6,g9,g10,g11,hmu,ho,hO,hk⟩
    have hms:=hmu.size
    have hob : ∀ k,v.ownBlock = some k→w.heap.size≤k:=fun k hk=>(World.ownsRow.lt ho k hk).1
    by_cases c1 : i < l.length
    · have d1 : (i : Int) < ((l.length : Nat) : Int):=by omega
      obtain ⟨y,hyi⟩ : ∃ y,l[i]? = some y:=⟨l[i],List.getElem?_eq_getElem c1⟩
      obtain ⟨b,o,c,cur,t,f,he,hbh,hcu⟩:=hat i (.string ⟨y.toArray⟩) (by simp [stV,hyi])
      have ha' : a = some ⟨b,o,none⟩:=by simpa using congrArg (fun x=>match x with | .slice a _ _=>a | _=>none) he
      subst ha'
      have hbu:=hmu.keep hbh id
      have hi0 : (0 : Int)≤(i : Int):=by omega
      have hw1 : IntKind.i64.wrap ((i : Int) + 1) = ((i + 1 : Nat) : Int):=by rw [wrap_i64 _ (by omega)]; omega
      have hdrop : l.drop i = y :: l.drop (i + 1):=List.drop_eq_getElem?_toList_append.trans (by rw [hyi]; rfl)
      rw [hdrop,wgo] at hk
      have hxl : x.toList = x.data.toList:=ByteArray.toList_eq x
      have hyl : (⟨y.toArray⟩ : ByteArray).toList = y:=by rw [ByteArray.toList_eq]
      have hlee : (Op.bytesLess x.toList (⟨y.toArray⟩ : ByteArray).toList || x.toList == (⟨y.toArray⟩ : ByteArray).toList) = leB x.data.toList y:=by rw [hyl,hxl]; rfl
      have heqq : (x.toList == (⟨y.toArray⟩ : ByteArray).toList) = (x.data.toList == y):=by rw [hyl,hxl]
      cases hB : (!dn && leB x.data.toList y) with
      | false =>
        rw [hB] at hk
        have hdn : (dn || leB x.data.toList y) = dn:=by cases dn <;> simp_all
        rw [hdn] at hk
        cases hE : (x.data.toList == y) with
        | true =>
          rw [hE] at hk
          cases dn with
          | true =>
            simp only [ZB,insVc,pickK,load1K,iopK,iopV,sopK,sopV,notK,iaddrK,ne_eq,Nat.reduceEqDiff,reduceCtorEq,Zag,Zax,Zbh,g1,g5,g6,g9,g10,g11,d1,hi0,hbu,hcu,heqq,hE,hw1]
            exact ⟨l.length - (i + 1),by omega,i + 1,v,O,true,by omega,rfl,rfl,rfl,rfl,hmu,ho,by omega,by simpa using hk⟩
          | false =>
            have hle : leB x.data.toList y = false:=by simpa using hB
            unfold leB at hle
            rw [hE,Bool.or_true] at hle
            cases hle
        | false =>
          rw [hE] at hk
          obtain ⟨v5,u5,hr5,ho5,hm5⟩:=app u v O ⟨y.toArray⟩ ho (by omega) hms
          have ho5 : u5.ownsRow w.heap.size 9 1 v5 (O ++ [y]).length (stV (O ++ [y])):=ho5
          have hmu5:=hmu.then hm5 (fun k hk x=>by have:=hob k x; omega)
          cases dn with
          | true =>
            simp only [ZB,insVc,pickK,load1K,iopK,iopV,sopK,sopV,notK,iaddrK,fillL,buildSK,Value.cells,ne_eq,Nat.reduceEqDiff,Nat.reduceLeDiff,reduceCtorEq,Zak,Zai,Zaj,Zbc,Zbd,Zba,Zbb,Zal,Zam,Zbf,Zac,Zag,Zax,Zbh,g1,g5,g6,g9,g10,g11,d1,hi0,hbu,hcu,heqq,hE]
            refine rawK_append rfl rfl rfl (by first | exact hr5 | (simp only [ZB,blockQ_exit,endK,resK,resN,res1,resO_cells,packed,insVc,pickK,load1K,loadV_none,loadNK,storeK,storeNK,setMany,nilK,nilM,iopK,iopV,sopK,sopV,bopK,nilOf,pnilK,notK,convK,sameK,faddrK,fld1K,fldNK,iaddrK,iaddrAK,sidxK,extK,lenSK,lenLK,callvK,invK,buildK,fillL,buildSK,boundOf,slSK,slLK,slAK,isPlain,Value.cells,ne_eq,not_true_eq_false,Nat.reduceEqDiff,Nat.reduceAdd,Nat.reduceLT,Nat.reduceLeDiff,reduceCtorEq,Zbk,Zbn,Zab,Zbz,Zad,Zae,Za,Zaf,Zc,Zah,Zak,Zai,Zaj,Zbc,Zbd,Zba,Zbb,Zal,Zam,Zan,List.append_eq,Zaa,Zap,Zbr,Zbf,or_true,Zac,Zag,Zca,Zcb,Zbq,Zbx,Int.reduceLT,Int.reduceLE,Int.reduceToNat,Zax,Int.reduceAdd,Int.reduceSub,Int.reduceMul,Int.reduceNeg,Int.reduceEq,Int.reduceNe,Int.reduceBEq,Int.reduceBNe,Zbh,Zb,Zaz,Zav,Zbt,Zar,Zay,Zaw,Zbw,Zcc,vcS_nil,vcS_cons,vcS_gate,gateS_true,gateS_false,stepB_true,stepB_false,pureI,Zbp,Zbs,Nat.reduceMul,Nat.reduceSub,Zas,Zat,Zau,Zbg,Zbe,Zao,vcD_nil,vcD_cons,vcD_gate,gateD_true,gateD_false,stepD_pure,stepD_load,stepD_step,kindI,loadI,g5]; exact hr5) | (simp only [ZB,blockQ_exit,endK,resK,resN,res1,resO_cells,packed,insVc,pickK,load1K,loadV_none,loadNK,storeK,storeNK,setMany,nilK,nilM,iopK,iopV,sopK,sopV,bopK,nilOf,pnilK,notK,convK,sameK,faddrK,fld1K,fldNK,iaddrK,iaddrAK,sidxK,extK,lenSK,lenLK,callvK,invK,buildK,fillL,buildSK,boundOf,slSK,slLK,slAK,isPlain,Value.cells,ne_eq,not_true_eq_false,Nat.reduceEqDiff,Nat.reduceAdd,Nat.reduceLT,Nat.reduceLeDiff,reduceCtorEq,Zbk,Zbn,Zab,Zbz,Zad,Zae,Za,Zaf,Zc,Zah,Zak,Zai,Zaj,Zbc,Zbd,Zba,Zbb,Zal,Zam,Zan,List.append_eq,Zaa,Zap,Zbr,Zbf,or_true,Zac,Zag,Zca,Zcb,Zbq,Zbx,Int.reduceLT,Int.reduceLE,Int.reduceToNat,Zax,Int.reduceAdd,Int.reduceSub,Int.reduceMul,Int.reduceNeg,Int.reduceEq,Int.reduceNe,Int.reduceBEq,Int.reduceBNe,Zbh,Zb,Zaz,Zav,Zbt,Zar,Zay,Zaw,Zbw,Zcc,vcS_nil,vcS_cons,vcS_gate,gateS_true,gateS_false,stepB_true,stepB_false,pureI,Zbp,Zbs,Nat.reduceMul,Nat.reduceSub,Zas,Zat,Zau,Zbg,Zbe,Zao,vcD_nil,vcD_cons,vcD_gate,gateD_true,gateD_false,stepD_pure,stepD_load,stepD_step,kindI,loadI]; exact hr5)) ?_
            simp only [ZB,insVc,iopK,iopV,ne_eq,Nat.reduceEqDiff,reduceCtorEq,g1,g6,g9,g10,g11,hw1]
            exact ⟨l.length - (i + 1),by omega,i + 1,v5,O ++ [y],true,by omega,rfl,rfl,rfl,rfl,hmu5,ho5,by simp; omega,by rw [hk]; simp⟩
          | false =>
            have hle : leB x.data.toList y = false:=by simpa using hB
            have hbl : Op.bytesLess x.toList (⟨y.toArray⟩ : ByteArray).toList = false:=by
              rw [← hlee] at hle
              cases hbb : Op.bytesLess x.toList (⟨y.toArray⟩ : ByteArray).toList with
              | false=>rfl
              | true=>rw [hbb,Bool.true_or] at hle; cases hle
            simp only [ZB,insVc,pickK,load1K,iopK,iopV,sopK,sopV,notK,iaddrK,fillL,buildSK,Value.cells,ne_eq,Nat.reduceEqDiff,Nat.reduceLeDiff,reduceCtorEq,Zak,Zai,Zaj,Zbc,Zbd,Zba,Zbb,Zal,Zam,Zbf,Zac,Zax,Zbh,g1,g5,g6,g9,g10,g11,d1,hi0,hbu,hcu,heqq,hE,hbl,Bool.or_self]
            refine rawK_append rfl rfl rfl (by first | exact hr5 | (simp only [ZB,blockQ_exit,endK,resK,resN,res1,resO_cells,packed,insVc,pickK,load1K,loadV_none,loadNK,storeK,storeNK,setMany,nilK,nilM,iopK,iopV,sopK,sopV,bopK,nilOf,pnilK,notK,convK,sameK,faddrK,fld1K,fldNK,iaddrK,iaddrAK,sidxK,extK,lenSK,lenLK,callvK,invK,buildK,fillL,buildSK,boundOf,slSK,slLK,slAK,isPlain,Value.cells,ne_eq,not_true_eq_false,Nat.reduceEqDiff,Nat.reduceAdd,Nat.reduceLT,Nat.reduceLeDiff,reduceCtorEq,Zbk,Zbn,Zab,Zbz,Zad,Zae,Za,Zaf,Zc,Zah,Zak,Zai,Zaj,Zbc,Zbd,Zba,Zbb,Zal,Zam,Zan,List.append_eq,Zaa,Zap,Zbr,Zbf,or_true,Zac,Zag,Zca,Zcb,Zbq,Zbx,Int.reduceLT,Int.reduceLE,Int.reduceToNat,Zax,Int.reduceAdd,Int.reduceSub,Int.reduceMul,Int.reduceNeg,Int.reduceEq,Int.reduceNe,Int.reduceBEq,Int.reduceBNe,Zbh,Zb,Zaz,Zav,Zbt,Zar,Zay,Zaw,Zbw,Zcc,vcS_nil,vcS_cons,vcS_gate,gateS_true,gateS_false,stepB_true,stepB_false,pureI,Zbp,Zbs,Nat.reduceMul,Nat.reduceSub,Zas,Zat,Zau,Zbg,Zbe,Zao,vcD_nil,vcD_cons,vcD_gate,gateD_true,gateD_false,stepD_pure,stepD_load,stepD_step,kindI,loadI,g5]; exact hr5) | (simp only [ZB,blockQ_exit,endK,resK,resN,res1,resO_cells,packed,insVc,pickK,load1K,loadV_none,loadNK,storeK,storeNK,setMany,nilK,nilM,iopK,iopV,sopK,sopV,bopK,nilOf,pnilK,notK,convK,sameK,faddrK,fld1K,fldNK,iaddrK,iaddrAK,sidxK,extK,lenSK,lenLK,callvK,invK,buildK,fillL,buildSK,boundOf,slSK,slLK,slAK,isPlain,Value.cells,ne_eq,not_true_eq_false,Nat.reduceEqDiff,Nat.reduceAdd,Nat.reduceLT,Nat.reduceLeDiff,reduceCtorEq,Zbk,Zbn,Zab,Zbz,Zad,Zae,Za,Zaf,Zc,Zah,Zak,Zai,Zaj,Zbc,Zbd,Zba,Zbb,Zal,Zam,Zan,List.append_eq,Zaa,Zap,Zbr,Zbf,or_true,Zac,Zag,Zca,Zcb,Zbq,Zbx,Int.reduceLT,Int.reduceLE,Int.reduceToNat,Zax,Int.reduceAdd,Int.reduceSub,Int.reduceMul,Int.reduceNeg,Int.reduceEq,Int.reduceNe,Int.reduceBEq,Int.reduceBNe,Zbh,Zb,Zaz,Zav,Zbt,Zar,Zay,Zaw,Zbw,Zcc,vcS_nil,vcS_cons,vcS_gate,gateS_true,gateS_false,stepB_true,stepB_false,pureI,Zbp,Zbs,Nat.reduceMul,Nat.reduceSub,Zas,Zat,Zau,Zbg,Zbe,Zao,vcD_nil,vcD_cons,vcD_gate,gateD_true,gateD_false,stepD_pure,stepD_load,stepD_step,kindI,loadI]; exact hr5)) ?_
            simp only [ZB,insVc,iopK,iopV,ne_eq,Nat.reduceEqDiff,reduceCtorEq,g1,g6,g9,g10,g11,hw1]
            exact ⟨l.length - (i + 1),by omega,i + 1,v5,O ++ [y],false,by omega,rfl,rfl,rfl,rfl,hmu5,ho5,by simp; omega,by rw [hk]; simp⟩
      | true =>
        rw [hB] at hk
        rw [Bool.and_eq_true] at hB
        obtain ⟨hdn,hle⟩:=hB
        have hdn : dn = false:=by simpa using hdn
        subst hdn
        rw [hle,Bool.or_true] at hk
        obtain ⟨v5,u5,hr5,ho5,hm5⟩:=app u v O x ho (by omega) hms
        have hmu5:=hmu.then hm5 (fun k hk x=>by have:=hob k x; omega)
        have hb5:=hmu5.keep hbh id
        have hms5:=hmu5.size
        have hob5 : ∀ k,v5.ownBlock = some k→w.heap.size≤k:=fun k hk=>(World.ownsRow.lt ho5 k hk).1
        cases hE : (x.data.toList == y) with
        | true =>
          rw [hE] at hk
          simp only [ZB,insVc,pickK,load1K,iopK,iopV,sopK,sopV,notK,iaddrK,fillL,buildSK,Value.cells,ne_eq,Nat.reduceEqDiff,Nat.reduceLeDiff,reduceCtorEq,Zak,Zai,Zaj,Zbc,Zbd,Zba,Zbb,Zal,Zam,Zbf,Zac,Zax,Zbh,g1,g5,g6,g9,g10,g11,d1,hi0,hbu,hcu,heqq,hE,Bool.or_true]
          refine rawK_append rfl rfl rfl (by first | exact hr5 | (simp only [ZB,blockQ_exit,endK,resK,resN,res1,resO_cells,packed,insVc,pickK,load1K,loadV_none,loadNK,storeK,storeNK,setMany,nilK,nilM,iopK,iopV,sopK,sopV,bopK,nilOf,pnilK,notK,convK,sameK,faddrK,fld1K,fldNK,iaddrK,iaddrAK,sidxK,extK,lenSK,lenLK,callvK,invK,buildK,fillL,buildSK,boundOf,slSK,slLK,slAK,isPlain,Value.cells,ne_eq,not_true_eq_false,Nat.reduceEqDiff,Nat.reduceAdd,Nat.reduceLT,Nat.reduceLeDiff,reduceCtorEq,Zbk,Zbn,Zab,Zbz,Zad,Zae,Za,Zaf,Zc,Zah,Zak,Zai,Zaj,Zbc,Zbd,Zba,Zbb,Zal,Zam,Zan,List.append_eq,Zaa,Zap,Zbr,Zbf,or_true,Zac,Zag,Zca,Zcb,Zbq,Zbx,Int.reduceLT,Int.reduceLE,Int.reduceToNat,Zax,Int.reduceAdd,Int.reduceSub,Int.reduceMul,Int.reduceNeg,Int.reduceEq,Int.reduceNe,Int.reduceBEq,Int.reduceBNe,Zbh,Zb,Zaz,Zav,Zbt,Zar,Zay,Zaw,Zbw,Zcc,vcS_nil,vcS_cons,vcS_gate,gateS_true,gateS_false,stepB_true,stepB_false,pureI,Zbp,Zbs,Nat.reduceMul,Nat.reduceSub,Zas,Zat,Zau,Zbg,Zbe,Zao,vcD_nil,vcD_cons,vcD_gate,gateD_true,gateD_false,stepD_pure,stepD_load,stepD_step,kindI,loadI,g5]; exact hr5) | (simp only [ZB,blockQ_exit,endK,resK,resN,res1,resO_cells,packed,insVc,pickK,load1K,loadV_none,loadNK,storeK,storeNK,setMany,nilK,nilM,iopK,iopV,sopK,sopV,bopK,nilOf,pnilK,notK,convK,sameK,faddrK,fld1K,fldNK,iaddrK,iaddrAK,sidxK,extK,lenSK,lenLK,callvK,invK,buildK,fillL,buildSK,boundOf,slSK,slLK,slAK,isPlain,Value.cells,ne_eq,not_true_eq_false,Nat.reduceEqDiff,Nat.reduceAdd,Nat.reduceLT,Nat.reduceLeDiff,reduceCtorEq,Zbk,Zbn,Zab,Zbz,Zad,Zae,Za,Zaf,Zc,Zah,Zak,Zai,Zaj,Zbc,Zbd,Zba,Zbb,Zal,Zam,Zan,List.append_eq,Zaa,Zap,Zbr,Zbf,or_true,Zac,Zag,Zca,Zcb,Zbq,Zbx,Int.reduceLT,Int.reduceLE,Int.reduceToNat,Zax,Int.reduceAdd,Int.reduceSub,Int.reduceMul,Int.reduceNeg,Int.reduceEq,Int.reduceNe,Int.reduceBEq,Int.reduceBNe,Zbh,Zb,Zaz,Zav,Zbt,Zar,Zay,Zaw,Zbw,Zcc,vcS_nil,vcS_cons,vcS_gate,gateS_true,gateS_false,stepB_true,stepB_false,pureI,Zbp,Zbs,Nat.reduceMul,Nat.reduceSub,Zas,Zat,Zau,Zbg,Zbe,Zao,vcD_nil,vcD_cons,vcD_gate,gateD_true,gateD_false,stepD_pure,stepD_load,stepD_step,kindI,loadI]; exact hr5)) ?_
          simp only [ZB,insVc,iopK,iopV,sopK,sopV,ne_eq,Nat.reduceEqDiff,reduceCtorEq,g1,g9,g10,g11,heqq,hE,hw1]
          exact ⟨l.length - (i + 1),by omega,i + 1,v5,O ++ [x.data.toList],true,by omega,rfl,rfl,rfl,rfl,hmu5,ho5,by simp; omega,by rw [hk]; simp⟩
        | false =>
          rw [hE] at hk
          obtain ⟨v6,u6,hr6,ho6,hm6⟩:=app u5 v5 (O ++ [x.data.toList]) ⟨y.toArray⟩ ho5 (by simp; omega) hms5
          have ho6 : u6.ownsRow w.heap.size 9 1 v6 ((O ++ [x.data.toList]) ++ [y]).length (stV ((O ++ [x.data.toList]) ++ [y])):=ho6
          have hmu6:=hmu5.then hm6 (fun k hk x=>by have:=hob5 k x; omega)
          have hbl : Op.bytesLess x.toList (⟨y.toArray⟩ : ByteArray).toList = true:=by
            rw [← hlee,heqq,hE,Bool.or_false] at hle
            exact hle
          simp only [ZB,insVc,pickK,load1K,iopK,iopV,sopK,sopV,notK,iaddrK,fillL,buildSK,Value.cells,ne_eq,Nat.reduceEqDiff,Nat.reduceLeDiff,reduceCtorEq,Zak,Zai,Zaj,Zbc,Zbd,Zba,Zbb,Zal,Zam,Zbf,Zac,Zax,Zbh,g1,g5,g6,g9,g10,g11,d1,hi0,hbu,hcu,heqq,hE,hbl,Bool.or_false]
          refine rawK_append rfl rfl rfl (by first | exact hr5 | (simp only [ZB,blockQ_exit,endK,resK,resN,res1,resO_cells,packed,insVc,pickK,load1K,loadV_none,loadNK,storeK,storeNK,setMany,nilK,nilM,iopK,iopV,sopK,sopV,bopK,nilOf,pnilK,notK,convK,sameK,faddrK,fld1K,fldNK,iaddrK,iaddrAK,sidxK,extK,lenSK,lenLK,callvK,invK,buildK,fillL,buildSK,boundOf,slSK,slLK,slAK,isPlain,Value.cells,ne_eq,not_true_eq_false,Nat.reduceEqDiff,Nat.reduceAdd,Nat.reduceLT,Nat.reduceLeDiff,reduceCtorEq,Zbk,Zbn,Zab,Zbz,Zad,Zae,Za,Zaf,Zc,Zah,Zak,Zai,Zaj,Zbc,Zbd,Zba,Zbb,Zal,Zam,Zan,List.append_eq,Zaa,Zap,Zbr,Zbf,or_true,Zac,Zag,Zca,Zcb,Zbq,Zbx,Int.reduceLT,Int.reduceLE,Int.reduceToNat,Zax,Int.reduceAdd,Int.reduceSub,Int.reduceMul,Int.reduceNeg,Int.reduceEq,Int.reduceNe,Int.reduceBEq,Int.reduceBNe,Zbh,Zb,Zaz,Zav,Zbt,Zar,Zay,Zaw,Zbw,Zcc,vcS_nil,vcS_cons,vcS_gate,gateS_true,gateS_false,stepB_true,stepB_false,pureI,Zbp,Zbs,Nat.reduceMul,Nat.reduceSub,Zas,Zat,Zau,Zbg,Zbe,Zao,vcD_nil,vcD_cons,vcD_gate,gateD_true,gateD_false,stepD_pure,stepD_load,stepD_step,kindI,loadI,g5]; exact hr5) | (simp only [ZB,blockQ_exit,endK,resK,resN,res1,resO_cells,packed,insVc,pickK,load1K,loadV_none,loadNK,storeK,storeNK,setMany,nilK,nilM,iopK,iopV,sopK,sopV,bopK,nilOf,pnilK,notK,convK,sameK,faddrK,fld1K,fldNK,iaddrK,iaddrAK,sidxK,extK,lenSK,lenLK,callvK,invK,buildK,fillL,buildSK,boundOf,slSK,slLK,slAK,isPlain,Value.cells,ne_eq,not_true_eq_false,Nat.reduceEqDiff,Nat.reduceAdd,Nat.reduceLT,Nat.reduceLeDiff,reduceCtorEq,Zbk,Zbn,Zab,Zbz,Zad,Zae,Za,Zaf,Zc,Zah,Zak,Zai,Zaj,Zbc,Zbd,Zba,Zbb,Zal,Zam,Zan,List.append_eq,Zaa,Zap,Zbr,Zbf,or_true,Zac,Zag,Zca,Zcb,Zbq,Zbx,Int.reduceLT,Int.reduceLE,Int.reduceToNat,Zax,Int.reduceAdd,Int.reduceSub,Int.reduceMul,Int.reduceNeg,Int.reduceEq,Int.reduceNe,Int.reduceBEq,Int.reduceBNe,Zbh,Zb,Zaz,Zav,Zbt,Zar,Zay,Zaw,Zbw,Zcc,vcS_nil,vcS_cons,vcS_gate,gateS_true,gateS_false,stepB_true,stepB_false,pureI,Zbp,Zbs,Nat.reduceMul,Nat.reduceSub,Zas,Zat,Zau,Zbg,Zbe,Zao,vcD_nil,vcD_cons,vcD_gate,gateD_true,gateD_false,stepD_pure,stepD_load,stepD_step,kindI,loadI]; exact hr5)) ?_
          simp only [ZB,insVc,sopK,sopV,fillL,buildSK,Value.cells,ne_eq,Nat.reduceEqDiff,Nat.reduceLeDiff,Zak,Zai,Zaj,Zbc,Zbd,Zba,Zbb,Zal,Zam,Zbf,Zac,g1,heqq,hE]
          refine rawK_append rfl rfl rfl (by first | exact hr6 | (simp only [ZB,blockQ_exit,endK,resK,resN,res1,resO_cells,packed,insVc,pickK,load1K,loadV_none,loadNK,storeK,storeNK,setMany,nilK,nilM,iopK,iopV,sopK,sopV,bopK,nilOf,pnilK,notK,convK,sameK,faddrK,fld1K,fldNK,iaddrK,iaddrAK,sidxK,extK,lenSK,lenLK,callvK,invK,buildK,fillL,buildSK,boundOf,slSK,slLK,slAK,isPlain,Value.cells,ne_eq,not_true_eq_false,Nat.reduceEqDiff,Nat.reduceAdd,Nat.reduceLT,Nat.reduceLeDiff,reduceCtorEq,Zbk,Zbn,Zab,Zbz,Zad,Zae,Za,Zaf,Zc,Zah,Zak,Zai,Zaj,Zbc,Zbd,Zba,Zbb,Zal,Zam,Zan,List.append_eq,Zaa,Zap,Zbr,Zbf,or_true,Zac,Zag,Zca,Zcb,Zbq,Zbx,Int.reduceLT,Int.reduceLE,Int.reduceToNat,Zax,Int.reduceAdd,Int.reduceSub,Int.reduceMul,Int.reduceNeg,Int.reduceEq,Int.reduceNe,Int.reduceBEq,Int.reduceBNe,Zbh,Zb,Zaz,Zav,Zbt,Zar,Zay,Zaw,Zbw,Zcc,vcS_nil,vcS_cons,vcS_gate,gateS_true,gateS_false,stepB_true,stepB_false,pureI,Zbp,Zbs,Nat.reduceMul,Nat.reduceSub,Zas,Zat,Zau,Zbg,Zbe,Zao,vcD_nil,vcD_cons,vcD_gate,gateD_true,gateD_false,stepD_pure,stepD_load,stepD_step,kindI,loadI]; exact hr6)) ?_
          simp only [ZB,insVc,iopK,iopV,ne_eq,Nat.reduceEqDiff,reduceCtorEq,g1,g9,g10,g11,hw1]
          exact ⟨l.length - (i + 1),by omega,i + 1,v6,(O ++ [x.data.toList]) ++ [y],true,by omega,rfl,rfl,rfl,rfl,hmu6,ho6,by simp; omega,by rw [hk]; simp⟩
    · have d1 : ¬ (i : Int) < ((l.length : Nat) : Int):=by omega
      have hie : i = l.length:=by omega
      rw [hie,List.drop_length] at hk
      cases dn with
      | true =>
        rw [wgo,if_pos rfl,List.append_nil] at hk
        rw [hk] at h
        simp only [ZB,endK,resK,packed,insVc,iopK,iopV,notK,ne_eq,Nat.reduceEqDiff,reduceCtorEq,Zaa,g5,g6,g10,g11,d1]
        exact h u v hmu ho
      | false =>
        rw [wgo,if_neg (by simp)] at hk
        rw [hk] at h
        obtain ⟨v5,u5,hr5,ho5,hm5⟩:=app u v O x ho (by omega) hms
        simp only [ZB,insVc,iopK,iopV,notK,fillL,buildSK,Value.cells,ne_eq,Nat.reduceEqDiff,Nat.reduceLeDiff,reduceCtorEq,Zak,Zai,Zaj,Zbc,Zbd,Zba,Zbb,Zal,Zam,Zbf,Zac,g1,g5,g6,g10,g11,d1]
        refine rawK_append rfl rfl rfl (by simp only [ZB,ne_eq,Nat.reduceEqDiff]; exact hr5) ?_
        simp only [ZB,endK,resK,packed,insVc,Zaa]
        exact h u5 v5 (hmu.then hm5 (fun k hk x=>by have:=hob k x; omega)) ho5
end Go.Oct
