import Derived.Test.YtcbacomljnjacaaGreatDoorVoA
import Derived.Test.YtcbacomljnjacaaGreatDoorVrH
import Derived.Test.YtcbacomljnjacaaGreatDoorVdC
import Derived.Laws.StructEq
import Derived.Test.YtcbacomljnjacaaGreatDoorVcP
import Derived.Shelf.SlicesE.Clone
set_option linter.unusedSimpArgs false
set_option linter.unusedVariables false
set_option linter.unusedSectionVars false
set_option linter.unnecessarySimpa false
namespace Go.Oct
open Go Go.Vc Go.VrA Go.VrH
set_option maxRecDepth 100000
def cmpN (a b : Nat) : Int:=if a < b then -1 else if b < a then 1 else 0
def cmpS (a b : ByteArray) : Int:=if Op.bytesLess a.toList b.toList = true then -1 else if (!(Op.bytesLess a.toList b.toList || a.toList == b.toList)) = true then 1 else 0
theorem isNaNs_c (a : ByteArray) (w : World) (K : Value→World→Prop) (h : K (.bool false) w) : Ok Proofs.Tryz.prog 193 #[.string a] w K:=by
  refine F193.enter (args:=[.string a]) (by simp) ?_
  unfold c193 r193
  simp only [ZB,endK,resK,packed,insVc,sopK,sopV,ne_eq,Nat.reduceEqDiff,reduceCtorEq,Zaf,Za,Zaa,beq_self_eq_true]
  exact h
theorem isNaNu_c (a : Nat) (w : World) (K : Value→World→Prop) (h : K (.bool false) w) : Ok Proofs.Tryz.prog 216 #[.int .u64 a] w K:=by
  refine F216.enter (args:=[.int .u64 a]) (by simp) ?_
  unfold c216 r216
  simp only [ZB,endK,resK,packed,insVc,iopK,iopV,ne_eq,Nat.reduceEqDiff,reduceCtorEq,Zaf,Za,Zaa,bne_self_eq_false]
  exact h
theorem cmpU_c (a b : Nat) (w : World) (K : Value→World→Prop) (h : K (.int .i64 (cmpN a b)) w) : Ok Proofs.Tryz.prog 156 #[.int .u64 a,.int .u64 b] w K:=by
  refine F156.enter (args:=[.int .u64 a,.int .u64 b]) (by simp) ?_
  unfold c156 r156
  simp only [ZB,insVc,ne_eq,reduceCtorEq,Zaf,Zad,Zac,Za,Int.reduceNeg]
  refine isNaNu_c a w _ ?_
  simp only [ZB,insVc,ne_eq,Nat.reduceEqDiff,Zaf,Zad,Zac,Za,Zag,Int.reduceNeg]
  refine isNaNu_c b w _ ?_
  unfold cmpN at h
  by_cases h1 : a < b
  · have h1' : (a : Int) < (b : Int):=by omega
    simp only [ZB,endK,resK,packed,insVc,iopK,iopV,ne_eq,Nat.reduceEqDiff,reduceCtorEq,Zaf,Za,Zag,Zaa,Int.reduceNeg,h1']
    rw [if_pos h1] at h; exact h
  · have h1' : ¬ (a : Int) < (b : Int):=by omega
    rw [if_neg h1] at h
    by_cases h2 : b < a
    · have h2' : (a : Int) > (b : Int):=by omega
      simp only [ZB,endK,resK,packed,insVc,iopK,iopV,ne_eq,Nat.reduceEqDiff,reduceCtorEq,Zaf,Za,Zag,Zaa,Int.reduceNeg,h1',h2']
      rw [if_pos h2] at h; exact h
    · have h2' : ¬ (a : Int) > (b : Int):=by omega
      simp only [ZB,endK,resK,packed,insVc,iopK,iopV,ne_eq,Nat.reduceEqDiff,reduceCtorEq,Zaf,Za,Zag,Zaa,Int.reduceNeg,h1',h2']
      rw [if_neg h2] at h; exact h
theorem cmpS_c (a b : ByteArray) (w : World) (K : Value→World→Prop) (h : K (.int .i64 (cmpS a b)) w) : Ok Proofs.Tryz.prog 155 #[.string a,.string b] w K:=by
  refine F155.enter (args:=[.string a,.string b]) (by simp) ?_
  unfold c155 r155
  simp only [ZB,insVc,ne_eq,reduceCtorEq,Zaf,Zad,Zac,Za,Int.reduceNeg]
  refine isNaNs_c a w _ ?_
  simp only [ZB,insVc,ne_eq,Nat.reduceEqDiff,Zaf,Zad,Zac,Za,Zag,Int.reduceNeg]
  refine isNaNs_c b w _ ?_
  unfold cmpS at h
  cases h1 : Op.bytesLess a.toList b.toList with
  | true =>
    simp only [ZB,endK,resK,packed,insVc,sopK,sopV,ne_eq,Nat.reduceEqDiff,reduceCtorEq,Zaf,Za,Zag,Zaa,Int.reduceNeg,h1]
    rw [if_pos h1] at h; exact h
  | false =>
    rw [if_neg (by rw [h1]; decide),h1] at h
    cases h2 : (!(false || a.toList == b.toList)) with
    | true =>
      simp only [ZB,endK,resK,packed,insVc,sopK,sopV,ne_eq,Nat.reduceEqDiff,reduceCtorEq,Zaf,Za,Zag,Zaa,Int.reduceNeg,h1,h2]
      rw [if_pos h2] at h; exact h
    | false =>
      simp only [ZB,endK,resK,packed,insVc,sopK,sopV,ne_eq,Nat.reduceEqDiff,reduceCtorEq,Zaf,Za,Zag,Zaa,Int.reduceNeg,h1,h2]
      rw [if_neg (by rw [h2]; decide)] at h; exact h
end Go.Oct
namespace Go.Oct
open Go Go.Vc Go.VrA Go.VrH
set_option maxRecDepth 100000
theorem or2_c (x y : Int) (b : Nat) (w : World) (K : Value→World→Prop) (hb : w.heap[b]? = some (.cells #[.int .i64 x,.int .i64 y] 3 (0,0))) (h : K (.int .i64 (if x = 0 then y else x)) w) :
    Ok Proofs.Tryz.prog 154 #[.slice (some ⟨b,0,none⟩) 2 2] w K:=by
  refine F154.enter (args:=[.slice (some ⟨b,0,none⟩) 2 2]) (by simp) ?_
  unfold c154 r154
  have k0 : (0 : Int) < ((2 : Nat) : Int):=by decide
  have k1 : (1 : Int) < ((2 : Nat) : Int):=by decide
  have k2 : ¬ (2 : Int) < ((2 : Nat) : Int):=by decide
  have j1 : IntKind.i64.wrap 1 = 1:=by decide
  have j2 : IntKind.i64.wrap (1 + 1) = 2:=by decide
  have j3 : IntKind.i64.wrap 2 = 2:=by decide
  have i0 : (0 : Int)≤0∧(0 : Int) < ((2 : Nat) : Int):=by decide
  have i1 : (0 : Int)≤1∧(1 : Int) < ((2 : Nat) : Int):=by decide
  simp only [ZB,insVc,lenLK,ne_eq,reduceCtorEq,Zaf,Za]
  refine vc_rounds 4 ?_
  simp only [ZB,insVc,load1K,iopK,iopV,iaddrK,ne_eq,Nat.reduceEqDiff,reduceCtorEq,Za,Zah,Int.reduceToNat,Zbm,Nat.reduceEqDiff,hb,k0,i0]
  by_cases hx : x = 0
  · rw [if_pos hx] at h
    subst hx
    simp only [ZB,insVc,iopK,iopV,ne_eq,Nat.reduceEqDiff,reduceCtorEq,Int.reduceAdd,bne_self_eq_false,j1]
    refine round_next ?_
    simp only [ZB,insVc,load1K,iopK,iopV,iaddrK,ne_eq,Nat.reduceEqDiff,reduceCtorEq,Za,Zag,Zah,Int.reduceToNat,Zbm,Nat.reduceEqDiff,hb,k1,i1]
    by_cases hy : y = 0
    · subst hy
      simp only [ZB,insVc,iopK,iopV,ne_eq,Nat.reduceEqDiff,reduceCtorEq,Int.reduceAdd,bne_self_eq_false,j3]
      refine round_next ?_
      simp only [ZB,endK,resK,packed,insVc,iopK,iopV,ne_eq,Nat.reduceEqDiff,reduceCtorEq,Zaa,Nat.reduceEqDiff,k2]
      exact h
    · have hy' : (y != 0) = true:=by simpa using hy
      simp only [ZB,endK,resK,packed,insVc,ne_eq,Nat.reduceEqDiff,Zaa,hy']
      exact h
  · have hx' : (x != 0) = true:=by simpa using hx
    rw [if_neg hx] at h
    simp only [ZB,endK,resK,packed,insVc,ne_eq,Nat.reduceEqDiff,Zaa,hx']
    exact h
def cmpK (q r : ByteArray) (i j : Nat) : Int:=if cmpS q r = 0 then cmpN i j else cmpS q r
theorem compare_c (q r : ByteArray) (i j : Nat) (w : World) (K : Value→World→Prop) (h : ∀ w',Mod (fun _=>False) w w'→K (.int .i64 (cmpK q r i j)) w') :
    Ok Proofs.Tryz.prog 92 #[.agg #[.string q,.int .u64 i],.agg #[.string r,.int .u64 j]] w K:=by
  refine F92.enter (args:=[.agg #[.string q,.int .u64 i],.agg #[.string r,.int .u64 j]]) (by simp) ?_
  unfold c92 r92
  obtain ⟨w1,hw1⟩ : ∃ w1,w1 = (w.alloc (.cells #[.string q,.int .u64 i] 164)).alloc (.cells #[.string r,.int .u64 j] 164):=⟨_,rfl⟩
  have hm1 : Mod (fun _=>False) w w1:=by rw [hw1]; exact ((Mod.refl _ _).alloc _).alloc _
  have hx : w1.heap[w.heap.size]? = some (.cells #[.string q,.int .u64 i] 164 (0,0)):=by rw [hw1]; simp only [Zab,Zae,size_alloc,get_alloc,size_alloc,Zbi,Zay]
  have hy : w1.heap[w.heap.size + 1]? = some (.cells #[.string r,.int .u64 j] 164 (0,0)):=by rw [hw1]; simp only [Zab,Zae,size_alloc,get_alloc,size_alloc,Zba,Zay]
  simp only [ZB,insVc,Value.cells,ne_eq,Nat.reduceEqDiff,Zaf,Za,Zag,Nat.reduceEqDiff]
  rw [← hw1]
  refine draw_e (by kernel_rfl) (by kernel_rfl) (by kernel_rfl) (by kernel_rfl) ?_
  simp only [ZB,endK,resK,packed,insVc,load1K,faddrK,fillL,buildSK,Value.cells,ne_eq,Nat.reduceEqDiff,Nat.reduceAdd,Nat.reduceLeDiff,Zad,Zac,Za,Zag,Zah,Zai,Zaj,Zak,Zaa,Zab,Zae,pureI,kindI,loadI,vcE_nil,vcE_cons,stepE_pure,stepE_load,stepE_step,hx,hy]
  have e0 : Mod (fun _=>False) w1 w1.drew:=(Mod.refl _ _).drew
  refine cmpS_c q r w1.drew _ ?_
  refine ⟨e0, ?_⟩
  refine cmpU_c i j w1.drew _ ?_
  refine ⟨e0, ?_⟩
  simp only [Nat.reduceAdd,Nat.reduceLeDiff,Zai,Zaj,Zak,Zbd,Zbe,Zbc,Zbb,Zal,Zam,Zan,and_self,Zab,Nat.zero_add,Nat.add_zero,size_drew]
  refine ⟨e0.alloc _, ?_⟩
  refine or2_c (cmpS q r) (cmpN i j) _ _ _ (get_alloc_new _ _) ?_
  refine ⟨e0.alloc _, ?_⟩
  exact h _ (hm1.trans (e0.alloc _))
end Go.Oct
namespace Go.Oct
open Go Go.Vc Go.VrA Go.VrH
set_option maxRecDepth 100000
structure Le where
  q : ByteArray
  id : Nat
  till : Nat
def Le.cells (e : Le) : List Value:=[.string e.q,.int .u64 e.id,.int .u64 e.till]
def Le.val (e : Le) : Value:=.agg #[.string e.q,.int .u64 e.id,.int .u64 e.till]
def keyV (q : ByteArray) (i : Nat) : Value:=.agg #[.string q,.int .u64 i]
def tabV (l : Value) : Value:=.agg #[.func (.func 92) #[] #[],l]
def cmpE (a b : Le) : Int:=if cmpN a.till b.till = 0 then cmpK a.q b.q a.id b.id else cmpN a.till b.till
theorem order_c (l : Value) (a b : Le) (w : World) (K : Value→World→Prop) (h : ∀ w',Mod (fun _=>False) w w'→K (.int .i64 (cmpE a b)) w') :
    Ok Proofs.Tryz.prog 148 #[tabV l,a.val,b.val] w K:=by
  refine F148.enter (args:=[tabV l,a.val,b.val]) (by simp) ?_
  unfold c148 r148
  obtain ⟨w1,hw1⟩ : ∃ w1,w1 = ((w.alloc (.cells #[.func (.func 92) #[] #[],l] 139)).alloc (.cells #[.string a.q,.int .u64 a.id,.int .u64 a.till] 233)).alloc (.cells #[.string b.q,.int .u64 b.id,.int .u64 b.till] 233):=⟨_,rfl⟩
  have hm1 : Mod (fun _=>False) w w1:=by rw [hw1]; exact (((Mod.refl _ _).alloc _).alloc _).alloc _
  simp only [ZB,insVc,load1K,faddrK,Value.cells,ne_eq,Nat.reduceEqDiff,Nat.reduceAdd,reduceCtorEq,Zaf,Zad,Zac,Za,Zag,Zah,Zab,Zae,get_alloc,Zaz,Nat.reduceAdd,Zbg,Zba,Nat.reduceEqDiff,Zay,tabV,Le.val]
  rw [← hw1]
  have ht : w1.heap[w.heap.size]? = some (.cells #[.func (.func 92) #[] #[],l] 139 (0,0)):=by rw [hw1]; simp only [Nat.reduceAdd,reduceCtorEq,Zab,Zae,size_alloc,get_alloc,size_alloc,Zaz,Nat.reduceAdd,Zbi,Zay]
  have ha : w1.heap[w.heap.size + 1]? = some (.cells #[.string a.q,.int .u64 a.id,.int .u64 a.till] 233 (0,0)):=by rw [hw1]; simp only [Nat.reduceEqDiff,Nat.reduceAdd,Zab,Zae,size_alloc,get_alloc,size_alloc,Zaz,Nat.reduceAdd,Zbg,Zba,Nat.reduceEqDiff,Zay]
  have hb : w1.heap[w.heap.size + 2]? = some (.cells #[.string b.q,.int .u64 b.id,.int .u64 b.till] 233 (0,0)):=by rw [hw1]; simp only [Nat.reduceEqDiff,Nat.reduceAdd,reduceCtorEq,Zab,Zae,size_alloc,get_alloc,size_alloc,Zaz,Nat.reduceAdd,Zbg,Zba,Nat.reduceEqDiff]
  clear hw1
  refine cmpU_c a.till b.till w1 _ ?_
  unfold cmpE at h
  by_cases hn : cmpN a.till b.till = 0
  · simp only [ZB,insVc,pickK,load1K,loadNK,iopK,iopV,nilOf,pnilK,faddrK,callvK,ne_eq,Nat.reduceEqDiff,Nat.reduceAdd,Nat.reduceLeDiff,reduceCtorEq,Zad,Zac,Za,Zah,Zai,Zaj,Zak,Zaa,Zbt,Zae,Zaq,Zap,Zar,Zao,Zas,Zat,Nat.reduceAdd,Nat.reduceEqDiff,hn,ht,ha,hb,bne_self_eq_false]
    refine compare_c a.q b.q a.id b.id w1 _ ?_
    intro w2 hm2
    have:=h w2 (hm1.trans hm2)
    rw [if_pos hn] at this
    exact this
  · have hn' : (cmpN a.till b.till != 0) = true:=by simpa using hn
    simp only [ZB,endK,resK,packed,insVc,pickK,iopK,iopV,ne_eq,Nat.reduceEqDiff,reduceCtorEq,Zaa,Zab,Nat.reduceEqDiff,hn']
    have:=h w1 hm1
    rw [if_neg hn] at this
    exact this
end Go.Oct
namespace Go.Oct
open Go Go.Vc Go.VrA Go.VrH
set_option maxRecDepth 100000
def aggK : TypeDesc→Bool
  | .struct _=>true
  | .array _ _=>true
  | _=>false
theorem partK_at (cs : Array Value) (w : World) (t : TypeId) (d : TypeDesc) (o : Nat) (v : Value) (ht : Proofs.Tryz.prog.underlying t = some d) (hd : aggK d = false) (hv : cs[o]? = some v) : (part t cs o).run Proofs.Tryz.prog w = .ok v w:=by
  unfold part
  have hag : (isAgg t).run Proofs.Tryz.prog w = .ok false w:=by
    unfold isAgg
    rw [Sem.run_bind,run_underlying ht]
    cases d <;> first | rfl | cases hd
  rw [Sem.run_bind,hag]
  simp only [Result.andThen,Bool.false_eq_true,Zae,hv]
  rfl
theorem eqFK_step (xs ys : Array Value) (w : World) (f : Field) (fs : List Field) (d : TypeDesc) (u v : Value) (e r : Bool) (hn : f.name≠"_") (ht : Proofs.Tryz.prog.underlying f.type = some d) (hd : aggK d = false)
    (hx : xs[f.offset]? = some u) (hy : ys[f.offset]? = some v) (he : (Op.equalIn 9999 f.type u v).run Proofs.Tryz.prog w = .ok e w) (hfs : (Op.eqFields 9999 xs ys fs).run Proofs.Tryz.prog w = .ok r w) : (Op.eqFields 9999 xs ys (f :: fs)).run Proofs.Tryz.prog w = .ok (e && r) w:=by
  unfold Op.eqFields
  rw [if_pos hn]
  simp only [Sem.run_bind,partK_at xs w _ d _ u ht hd hx,partK_at ys w _ d _ v ht hd hy,Result.andThen,he]
  cases e with
  | true=>simpa using hfs
  | false=>rfl
def eqKey (q r : ByteArray) (i j : Nat) : Bool:=(q.toList == r.toList) && (((i : Int) == (j : Int)) && true)
theorem fields_key : ((Proofs.Tryz.prog.fieldsOf 164).toList.map fun f=>(f.name,f.type,f.offset)) = [("Queue",9,0),("ID",27,1)]:=by kernel_rfl
theorem under_key : Proofs.Tryz.prog.underlying 164 = some (.struct (Proofs.Tryz.prog.fieldsOf 164)):=by kernel_rfl
theorem run_eq_key (q r : ByteArray) (i j : Nat) (w : World) : (Op.equalIn 10000 164 (keyV q i) (keyV r j)).run Proofs.Tryz.prog w = .ok (eqKey q r i j) w:=by
  have hu9 : Proofs.Tryz.prog.underlying 9 = some .string:=by kernel_rfl
  have hu3 : Proofs.Tryz.prog.underlying 27 = some (.int .u64):=by kernel_rfl
  unfold keyV
  rw [run_equalIn_struct (ht:=under_key) (hp:=by kernel_rfl)]
  have key : ∀ (fs : List Field),(fs.map fun f=>(f.name,f.type,f.offset)) = [("Queue",9,0),("ID",27,1)]→(Op.eqFields 9999 #[.string q,.int .u64 i] #[.string r,.int .u64 j] fs).run Proofs.Tryz.prog w = .ok (eqKey q r i j) w:=by
    intro fs h
    obtain ⟨f0,fs,rfl,h0,h⟩:=List.map_eq_cons_iff.1 h
    obtain ⟨f1,fs,rfl,h1,h⟩:=List.map_eq_cons_iff.1 h
    obtain rfl:=List.map_eq_nil_iff.1 h
    simp only [Prod.mk.injEq] at h0 h1
    refine eqFK_step _ _ w f0 _ .string (.string q) (.string r) _ _ (by rw [h0.1]; decide) (by rw [h0.2.1]; exact hu9) rfl (by rw [h0.2.2]; rfl) (by rw [h0.2.2]; rfl) (by rw [h0.2.1,run_equalIn_string _ _ _ _ _ hu9]) ?_
    refine eqFK_step _ _ w f1 _ (.int .u64) (.int .u64 i) (.int .u64 j) _ _ (by rw [h1.1]; decide) (by rw [h1.2.1]; exact hu3) rfl (by rw [h1.2.2]; rfl) (by rw [h1.2.2]; rfl) (by rw [h1.2.1,run_equalIn_int _ _ _ _ _ _ _ hu3]) ?_
    rfl
  exact key _ fields_key
theorem rawK_eql_key {go : Value→World→Prop} {ρ : Env} {ds : List Deferred} {n : Nat} {o : Oper} {w : World} {x y : Operand} (q r : ByteArray) (i j : Nat) (ho : o.op = .binOp .eql 164 x y 164)
    (hx : inB n x = true) (hy : inB n y = true) (ha : ev ρ x = keyV q i) (hb : ev ρ y = keyV r j) (h : go (.bool (eqKey q r i j)) w) : RawK Proofs.Tryz.prog go ρ ds n o w:=by
  have hr:=run_eq_key q r i j w
  unfold keyV at ha hb hr
  unfold RawK
  simp only [execOp,ho,mkA_eval n ρ ds x hx,mkA_eval n ρ ds y hy,ha,hb,Sem.run_bind,run_eqGuard_agg w .eql 164 x y _ _ (by kernel_rfl : Proofs.Tryz.prog.eqGuardType Proofs.Tryz.prog.depth 164 = false),Result.andThen,run_eql_struct,hr]
  exact h
theorem findat_c (e : Le) (q : ByteArray) (i kb : Nat) (w : World) (K : Value→World→Prop) (hk : w.heap[kb]? = some (.cells #[.string q,.int .u64 i] 164 (0,0)))
    (h : ∀ w',Mod (fun _=>False) w w'→K (.bool (eqKey e.q q e.id i)) w') : Ok Proofs.Tryz.prog 259 #[e.val,ptr kb] w K:=by
  refine F259.enter (args:=[e.val,ptr kb]) (by simp) ?_
  unfold c259 r259
  obtain ⟨w1,hw1⟩ : ∃ w1,w1 = w.alloc (.cells #[.string e.q,.int .u64 e.id,.int .u64 e.till] 233):=⟨_,rfl⟩
  have hm1 : Mod (fun _=>False) w w1:=by rw [hw1]; exact (Mod.refl _ _).alloc _
  have he : w1.heap[w.heap.size]? = some (.cells #[.string e.q,.int .u64 e.id,.int .u64 e.till] 233 (0,0)):=by rw [hw1]; exact get_alloc_new _ _
  have hk1:=hm1.keep hk id
  have hne : kb≠w.heap.size:=by have:=lt_of_get hk; omega
  simp only [ZB,insVc,loadNK,faddrK,Value.cells,ne_eq,Nat.reduceEqDiff,Nat.reduceAdd,Nat.reduceLeDiff,Zaf,Za,Zag,Zai,Zaj,Zak,Zab,Zae,Zaq,Zap,Zar,Zao,Zas,Zat,get_alloc,Nat.reduceAdd,Nat.reduceEqDiff,Le.val,hk,hne]
  rw [← hw1]
  refine rawK_eql_key e.q q e.id i rfl rfl rfl rfl rfl ?_
  simp only [ZB,endK,resK,packed,insVc,Zaa]
  exact h w1 hm1
end Go.Oct
namespace Go.Oct
open Go Go.Vc Go.VrA Go.VrH
set_option maxRecDepth 100000
def IsLes (w : World) (v : Value) (l : List Le) : Prop :=
  (∃ a c,v = .slice a l.length c)∧∀ (i : Nat) (a : Le),l[i]? = some a→∃ b o c cur t f,v = .slice (some ⟨b,o,none⟩) l.length c∧w.heap[b]? = some (.cells cur t f)∧o + i * 3 + 3≤cur.size∧cur.extract (o + i * 3) (o + i * 3 + 3) = a.cells.toArray
theorem IsLes.keep {w w' : World} {v : Value} {l : List Le} (h : IsLes w v l) (hm : Mod (fun _=>False) w w') : IsLes w' v l:=by
  refine ⟨h.1,fun i a hi => ?_⟩
  obtain ⟨b,o,c,cur,t,f,h1,h2,h3⟩:=h.2 i a hi
  exact ⟨b,o,c,cur,t,f,h1,hm.keep h2 id,h3⟩
def findE (q : ByteArray) (i : Nat) : List Le→Nat→Int
  | [],_ => -1
  | e :: r,n=>if eqKey e.q q e.id i = true then n else findE q i r (n + 1)
theorem findE_drop (q : ByteArray) (i : Nat) (l : List Le) (n : Nat) (e : Le) (h : l[n]? = some e) : findE q i (l.drop n) n = if eqKey e.q q e.id i = true then (n : Int) else findE q i (l.drop (n + 1)) (n + 1):=by
  obtain ⟨hn,he⟩:=List.getElem?_eq_some_iff.1 h
  rw [List.drop_eq_getElem_cons hn,he]
  rfl
theorem indexf_c (l : List Le) (v : Value) (q : ByteArray) (i kb : Nat) (w : World) (K : Value→World→Prop) (hv : IsLes w v l) (hl : l.length < 2 ^ 60) (hk : w.heap[kb]? = some (.cells #[.string q,.int .u64 i] 164 (0,0)))
    (h : ∀ w',Mod (fun _=>False) w w'→K (.int .i64 (findE q i l 0)) w') :
    Ok Proofs.Tryz.prog 258 #[v,.func (.func 259) #[] #[ptr kb]] w K:=by
  obtain ⟨⟨a,cp,rfl⟩,hat⟩:=hv
  refine F258.enter (args:=[.slice a l.length cp,.func (.func 259) #[] #[ptr kb]]) (by simp) ?_
  unfold c258 r258
  simp only [ZB,insVc,lenLK,ne_eq,reduceCtorEq,Zaf,Za,Int.reduceNeg]
  refine vc_loop (fun mm ρ ds u => ∃ j,j≤l.length∧mm = l.length - j∧ds = []∧ρ 0 = .slice a l.length cp∧ρ 1 = .func (.func 259) #[] #[ptr kb]∧ρ 7 = .int .i64 l.length∧ρ 8 = .int .i64 j∧Mod (fun _=>False) w u∧findE q i l 0 = findE q i (l.drop j) j) (l.length - 0) ?_ ?_
  · exact ⟨0,Nat.zero_le _,rfl,rfl,by simp only [ZB,ne_eq,reduceCtorEq,Zaf,Za],by simp only [ZB,ne_eq,Nat.reduceEqDiff,Zaf,Za,Zag],by simp only [ZB,ne_eq,Nat.reduceEqDiff],by simp only [ZB]; rfl,Mod.refl _ _,rfl⟩
  · rintro mm ρ ds u ⟨j,hj,rfl,rfl,h0,h1,h7,h8,hmu,hf⟩
    by_cases c1 : j < l.length
    · have d1 : (j : Int) < ((l.length : Nat) : Int):=by omega
      obtain ⟨x,hxi⟩ : ∃ x,l[j]? = some x:=⟨l[j],List.getElem?_eq_getElem c1⟩
      obtain ⟨b,o,c,cur,t,f,he,hb,hsz,hex⟩:=hat j x hxi
      have hbu:=hmu.keep hb id
      have ha' : a = some ⟨b,o,none⟩:=by simpa using congrArg (fun x=>match x with | .slice a _ _=>a | _=>none) he
      subst ha'
      rw [Nat.add_assoc] at hsz hex
      have hi0' : (0 : Int)≤(j : Int)∧(j : Int) < ((l.length : Nat) : Int):=by omega
      have hw1 : IntKind.i64.wrap ((j : Int) + 1) = ((j + 1 : Nat) : Int):=by rw [wrap_i64 _ (by omega)]; omega
      have hfd:=findE_drop q i l j x hxi
      simp only [ZB,insVc,loadNK,iopK,iopV,iaddrK,callvK,ne_eq,Nat.reduceEqDiff,reduceCtorEq,Zad,Zac,Zaa,Zav,Zbj,Int.reduceNeg,Zaz,Nat.reduceEqDiff,h0,h1,h7,h8,d1,hi0',hbu,hsz,hex,Le.cells]
      refine findat_c x q i kb u _ (hmu.keep hk id) ?_
      intro u2 hm2
      cases hq : eqKey x.q q x.id i with
      | true =>
        rw [hq,if_pos rfl] at hfd
        simp only [ZB,endK,resK,packed,insVc,ne_eq,Nat.reduceEqDiff,Zaa,Int.reduceNeg]
        rw [← hfd,← hf]
        exact h u2 (hmu.trans hm2)
      | false =>
        rw [hq,if_neg (by decide)] at hfd
        simp only [ZB,insVc,iopK,iopV,ne_eq,Nat.reduceEqDiff,reduceCtorEq,Int.reduceNeg,h0,h1,h7,h8,hw1]
        exact ⟨l.length - (j + 1),by omega,j + 1,by omega,rfl,rfl,hmu.trans hm2,hf.trans hfd⟩
    · have d1 : ¬ (j : Int) < ((l.length : Nat) : Int):=by omega
      have : j = l.length:=by omega
      subst this
      rw [List.drop_length] at hf
      simp only [ZB,endK,resK,packed,insVc,iopK,iopV,reduceCtorEq,Zaa,Int.reduceNeg,h7,h8,d1]
      have:=h u hmu
      rw [hf] at this
      exact this
end Go.Oct
namespace Go.Oct
open Go Go.Vc Go.VrA Go.VrH
set_option maxRecDepth 100000
theorem lfind_c (l : List Le) (v : Value) (q : ByteArray) (i : Nat) (w : World) (K : Value→World→Prop) (hv : IsLes w v l) (hl : l.length < 2 ^ 60)
    (h : ∀ w',Mod (fun _=>False) w w'→K (.int .i64 (findE q i l 0)) w') :
    Ok Proofs.Tryz.prog 207 #[tabV v,keyV q i] w K:=by
  refine F207.enter (args:=[tabV v,keyV q i]) (by simp) ?_
  unfold c207 r207
  obtain ⟨w1,hw1⟩ : ∃ w1,w1 = (w.alloc (.cells #[.func (.func 92) #[] #[],v] 139)).alloc (.cells #[.string q,.int .u64 i] 164):=⟨_,rfl⟩
  have hm1 : Mod (fun _=>False) w w1:=by rw [hw1]; exact ((Mod.refl _ _).alloc _).alloc _
  have hk : w1.heap[w.heap.size + 1]? = some (.cells #[.string q,.int .u64 i] 164 (0,0)):=by rw [hw1]; simp only [Zab,Zae,size_alloc,get_alloc,size_alloc,Zba,Zay]
  simp only [ZB,insVc,load1K,faddrK,Value.cells,ne_eq,Nat.reduceEqDiff,Zaf,Zad,Zac,Za,Zag,Zah,Zab,Zae,get_alloc,Zbi,Nat.reduceEqDiff,Zay,tabV,keyV]
  rw [← hw1]
  refine indexf_c l v q i (w.heap.size + 1) w1 _ (hv.keep hm1) hl hk ?_
  intro w2 hm2
  exact h w2 (hm1.trans hm2)
theorem llen_c (l : List Le) (v : Value) (w : World) (K : Value→World→Prop) (hv : IsLes w v l)
    (h : ∀ w',Mod (fun _=>False) w w'→K (.int .i64 l.length) w') :
    Ok Proofs.Tryz.prog 89 #[tabV v] w K:=by
  obtain ⟨⟨a,cp,rfl⟩,_⟩:=hv
  refine F89.enter (args:=[tabV (.slice a l.length cp)]) (by simp) ?_
  unfold c89 r89
  simp only [ZB,endK,resK,packed,insVc,load1K,faddrK,lenLK,Value.cells,ne_eq,Nat.reduceEqDiff,Zaf,Za,Zag,Zah,Zaa,Zab,get_alloc,Nat.reduceEqDiff,tabV]
  exact h _ ((Mod.refl _ _).alloc _)
end Go.Oct
namespace Go.Oct
open Go Go.Vc Go.VrA Go.VrH
set_option maxRecDepth 100000
def flatE (l : List Le) : List Value:=l.flatMap Le.cells
theorem flatE_len (l : List Le) : (flatE l).length = l.length * 3:=row_len (s:=3) (cells:=Le.cells) (fun _=>rfl) l
theorem flatE_one (l : List Le) : ∀ u ∈ flatE l,u.oneCell' = true:=by
  intro u hu
  obtain ⟨e,_,he⟩:=List.mem_flatMap.1 hu
  simp only [Le.cells,Zbo,Zbp,or_false] at he
  rcases he with rfl | rfl | rfl <;> rfl
def OwnE (w : World) (B : Nat) (v : Value) (l : List Le) : Prop:=w.ownsRow B 233 3 v l.length (flatE l)
theorem OwnE.keep {w w' : World} {S : Nat→Prop} {B : Nat} {v : Value} {l : List Le} (h : OwnE w B v l) (hm : Mod S w w') (hS : ∀ k,v.ownBlock = some k→¬ S k) : OwnE w' B v l:=by
  obtain ⟨h1,h2⟩:=h
  refine ⟨h1,h2.imp id ?_⟩
  rintro ⟨g,cap,cur,rfl,hB,hg,r⟩
  exact ⟨g,cap,cur,rfl,hB,hm.keep hg (hS g rfl),r⟩
theorem OwnE.keep0 {w w' : World} {B : Nat} {v : Value} {l : List Le} (h : OwnE w B v l) (hm : Mod (fun _=>False) w w') : OwnE w' B v l:=h.keep hm (fun _ _=>id)
theorem OwnE.is {w : World} {B : Nat} {v : Value} {l : List Le} (h : OwnE w B v l) : IsLes w v l:=by
  rcases h.2 with ⟨rfl,h0⟩ | ⟨g,cap,cur,rfl,_,hg,_,_,_,hc⟩
  · have : l = []:=List.length_eq_zero_iff.1 h0
    subst this
    exact ⟨⟨_,_,rfl⟩,fun i x hx=>by simp at hx⟩
  · refine ⟨⟨_,_,rfl⟩,fun i x hx => ?_⟩
    have:=row_at (s:=3) (off:=0) (cells:=Le.cells) (fun _=>rfl) (by simpa [flatE] using hc) hx (by decide)
    exact ⟨g,0,cap,cur,_,_,rfl,hg,this.1,this.2⟩
theorem OwnE.mono {w : World} {B C : Nat} {v : Value} {l : List Le} (h : OwnE w B v l) (hc : C≤B) : OwnE w C v l:=⟨h.1,h.2.imp id fun ⟨g,cap,cur,a,b,r⟩=>⟨g,cap,cur,a,Nat.le_trans hc b,r⟩⟩
theorem OwnE.nil (w : World) (B : Nat) : OwnE w B (.slice none 0 0) []:=World.ownsRow_nil w B _ _
def SubE (w : World) (v : Value) (l : List Le) : Prop :=
  (∃ c,v = .slice none 0 c∧l = [])∨∃ b off c,v = .slice (some ⟨b,off,none⟩) l.length c∧∀ j u,(flatE l)[j]? = some u→w.cell? ⟨b,off + j,none⟩ = some u
theorem OwnE.sub {w : World} {B : Nat} {v : Value} {l : List Le} (h : OwnE w B v l) : SubE w v l:=by
  rcases h.2 with ⟨rfl,h0⟩ | ⟨g,cap,cur,rfl,_,hg,_,_,_,hc⟩
  · exact .inl ⟨0,rfl,List.length_eq_zero_iff.1 h0⟩
  · refine .inr ⟨g,0,cap,rfl,fun j u hj => ?_⟩
    have:=World.ownsRow.cells h (g:=g) rfl j u hj
    rw [Addr.add_lit] at this
    exact this
theorem OwnE.tail {w : World} {B : Nat} {v : Value} {l : List Le} (h : OwnE w B v l) (k : Nat) (hk : k≤l.length) : ∃ a n c,v = .slice a n c∧n = l.length∧k≤c∧n≤c ∧
    SubE w (.slice (if c = k then a else a.map (·.add (k * 3))) (n - k) (c - k)) (l.drop k):=by
  rcases h.2 with ⟨rfl,h0⟩ | ⟨g,cap,cur,rfl,_,hg,hnc,_,hcs,hc⟩
  · have : l = []:=List.length_eq_zero_iff.1 h0
    subst this
    exact ⟨none,0,0,rfl,rfl,by simpa using hk,by omega,.inl ⟨0 - k,by simp,by simp⟩⟩
  · refine ⟨some ⟨g,0,none⟩,l.length,cap,rfl,rfl,by omega,hnc,.inr ?_⟩
    have key : ∀ j u,(flatE (l.drop k))[j]? = some u→w.cell? ⟨g,k * 3 + j,none⟩ = some u:=by
      intro j u hj
      have hd : (flatE l).drop (k * 3) = flatE (l.drop k):=row_drop (s:=3) (cells:=Le.cells) (fun _=>rfl) l k
      rw [← hd,List.getElem?_drop] at hj
      have:=World.ownsRow.cells h (g:=g) rfl _ u hj
      rw [Addr.add_lit,Nat.zero_add] at this
      exact this
    by_cases hck : cap = k
    · have hd : l.drop k = []:=List.drop_eq_nil_iff.2 (by omega)
      rw [if_pos hck,hd]
      refine ⟨g,0,cap - k, ?_,fun j u hj=>by simp [flatE] at hj⟩
      have : l.length - k = 0:=by omega
      simp [this]
    · rw [if_neg hck]
      refine ⟨g,k * 3,cap - k, ?_,key⟩
      simp only [Zbn,Addr.add_lit,Nat.zero_add,List.length_drop]
theorem info_le : (Proofs.Tryz.prog.info? 233).map (fun i=>(i.zero,i.size,i.bytes)) = some (some (.agg #[.string ⟨#[]⟩,.int .u64 0,.int .u64 0]),3,32):=by kernel_rfl
theorem under_les : Proofs.Tryz.prog.underlying 137 = some (.slice 233):=by kernel_rfl
def cloneRen : Go.Shelf.Ren:=⟨fun | 41=>150 | n=>n,fun | 22=>137 | 23=>233 | 4=>4 | n=>n,fun | n=>n⟩
theorem cloneLays : Go.Proofs.SlLaysE0.n41 Proofs.Tryz.prog cloneRen:={
  mixed:=by kernel_rfl
  f41:=⟨Proofs.Tryz.f150.name,by decide,Proofs.Tryz.func150.trans (congrArg some (by kernel_rfl))⟩
  t4:=Proofs.Tryz.underlying4
  a4:=Proofs.Tryz.isAgg4
  z4:=Proofs.Tryz.sizeOf4
  v4:=Proofs.Tryz.zeroValue4
  t22:=Proofs.Tryz.underlying137
  a22:=Proofs.Tryz.isAgg137
  z22:=Proofs.Tryz.sizeOf137
  v22:=Proofs.Tryz.zeroValue137 }
theorem lclone_c (v : Value) (l : List Le) (w : World) (K : Value→World→Prop) (hv : SubE w v l) (hl : l.length < 2 ^ 40)
    (h : ∀ w' v',Mod (fun _=>False) w w'→OwnE w' w.heap.size v' l→K v' w') : Ok Proofs.Tryz.prog 150 #[v] w K:=by
  rcases hv with ⟨c,rfl,rfl⟩ | ⟨b,off,c,rfl,hc⟩
  · refine ok_of_calls (by kernel_rfl) (Go.Proofs.AnyE.slices_Clone_nil cloneLays 0 c w) ?_
    rintro e w' ⟨rfl,rfl⟩
    exact ⟨_,rfl,h _ _ (Mod.refl _ _) (OwnE.nil _ _)⟩
  · obtain ⟨i,hi,hi1,hi2⟩:=info_of info_le
    refine ok_of_calls (by kernel_rfl) (Go.Proofs.AnyE.slices_Clone cloneLays i _ 3 32 hi hi1 hi2.1 hi2.2 rfl (by decide) Proofs.Tryz.sizeOf233 b off l.length c (flatE l) w (flatE_len l) (by simp [maxLen]; omega) (by omega) hc (flatE_one l)) ?_
    rintro e w' ⟨v',rfl,ho,_,hb⟩
    exact ⟨_,rfl,h _ _ (Mod.of_below hb) ho⟩
end Go.Oct
