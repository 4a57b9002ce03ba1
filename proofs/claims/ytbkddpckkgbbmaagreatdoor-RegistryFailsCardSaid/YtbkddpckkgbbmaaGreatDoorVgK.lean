import Derived.Test.YtbkddpckkgbbmaaGreatDoorVzM
import Derived.Test.YtbkddpckkgbbmaaGreatDoorVgE
import Derived.Test.YtbkddpckkgbbmaaGreatDoorVfY
import Derived.Test.YtbkddpckkgbbmaaGreatDoorVgI
import Derived.Test.YtbkddpckkgbbmaaGreatDoorVfQ
import Derived.Test.YtbkddpckkgbbmaaGreatDoorVoV
import Derived.Test.YtbkddpckkgbbmaaGreatDoorVtB
set_option linter.unusedSimpArgs false
set_option linter.unusedVariables false
set_option linter.unusedSectionVars false
set_option linter.unnecessarySimpa false
namespace Go.Oct
open Go Go.Vc Go.VrA Go.VrB Go.VrC Go.VrE
set_option maxRecDepth 100000
end Go.Oct
namespace Go.Oct
open Go Go.Vc Go.VrA Go.VrB Go.VrC
set_option maxRecDepth 100000
end Go.Oct
namespace Go.Oct
open Go Go.Vc Go.VrA Go.VrB Go.VrC Go.VrE
set_option maxRecDepth 100000
structure Ac where
  act : Int
  m : Ms
  nx : Ms
def Ac.cells (a : Ac) : List Value:=.int .i64 a.act :: (a.m.cells ++ a.nx.cells)
def Ac.val (a : Ac) : Value:=.agg a.cells.toArray
def Ac.okA (n most : Nat) (a : Ac) : Prop:=n≤most∧a.m.queue.size≤400∧a.nx.queue.size≤400∧a.m.body.size≤1000∧a.nx.body.size≤1000
end Go.Oct
namespace Go.Oct
open Go Go.Vc Go.VrA Go.VrF
set_option maxRecDepth 100000
theorem max_if2 (a b : Int) : (if b > a then b else a) = max a b:=by omega
theorem rawK_max5 {go : Value→World→Prop} {ρ : Env} {ds : List Deferred} {n : Nat} {o : Oper} {w : World} {x1 x2 x3 x4 x5 : Operand} {ts : Array TypeId} {k : IntKind} {a1 a2 a3 a4 a5 : Int} (ho : o.op = .call { callee:=.builtin .max,args:=#[x1,x2,x3,x4,x5],argTypes:=ts })
    (h1 : inB n x1 = true) (h2 : inB n x2 = true) (h3 : inB n x3 = true) (h4 : inB n x4 = true) (h5 : inB n x5 = true)
    (e1 : ev ρ x1 = .int k a1) (e2 : ev ρ x2 = .int k a2) (e3 : ev ρ x3 = .int k a3) (e4 : ev ρ x4 = .int k a4) (e5 : ev ρ x5 = .int k a5) (h : go (.int k (max (max (max (max a1 a2) a3) a4) a5)) w) : RawK Proofs.Tryz.prog go ρ ds n o w:=by
  unfold RawK
  simp only [execOp,ho,resolve,Sem.run_bind,pure,Sem.run,Result.andThen,invoke,builtin]
  have e : (#[x1,x2,x3,x4,x5] : Array Operand).map (Vc.mkA n ρ ds).eval = #[.int k a1,.int k a2,.int k a3,.int k a4,.int k a5]:=by
    simp [mkA_eval n ρ ds x1 h1,mkA_eval n ρ ds x2 h2,mkA_eval n ρ ds x3 h3,mkA_eval n ρ ds x4 h4,mkA_eval n ρ ds x5 h5,e1,e2,e3,e4,e5]
  rw [e]
  simp only [Builtin.max_,List.foldlM_cons,List.foldlM_nil,Sem.run_bind,Builtin.max2,pure,Sem.run,Result.andThen,max_if2]
  exact h
structure Ag where
  act : Int
  q : Qu
  b : Bi
def Ag.cells (a : Ag) : List Value:=.int .i64 a.act :: (a.q.cells ++ a.b.cells)
def Ag.val (a : Ag) : Value:=.agg a.cells.toArray
def IsAgs (w : World) (v : Value) (l : List Ag) : Prop :=
  (∃ a c,v = .slice a l.length c)∧∀ (i : Nat) (a : Ag),l[i]? = some a→∃ b o c cur t f,v = .slice (some ⟨b,o,none⟩) l.length c∧w.heap[b]? = some (.cells cur t f)∧o + i * 10 + 10≤cur.size∧cur.extract (o + i * 10) (o + i * 10 + 10) = a.cells.toArray
theorem IsAgs.keep {w w' : World} {v : Value} {l : List Ag} (h : IsAgs w v l) (hm : Mod (fun _=>False) w w') : IsAgs w' v l:=by
  refine ⟨h.1,fun i a hi => ?_⟩
  obtain ⟨b,o,c,cur,t,f,h1,h2,h3⟩:=h.2 i a hi
  exact ⟨b,o,c,cur,t,f,h1,hm.keep h2 id,h3⟩
def Ag.szs (a : Ag) (k : Nat) : Prop:=a.q.name.size≤k∧a.q.dead.size≤k∧a.b.ex.size≤k∧a.b.key.size≤k∧a.b.q.size≤k
def Ag.okA (n most : Nat) (a : Ag) : Prop:=n≤most∧a.szs 400
theorem light21_c (l : List Ag) (most : Nat) (v : Value) (w : World) (K : Value→World→Prop) (hv : IsAgs w v l) (hl : l.length≤9223372036854775807)
    (hsz0 : ∀ a ∈ l,a.szs maxLen)
    (h : ∀ w' r,Mod (fun _=>False) w w'→(r = true→∀ a ∈ l,a.okA l.length most)→K (.bool r) w') : Ok Proofs.Tryz.prog 28 #[v,.int .i64 most] w K:=by
  obtain ⟨⟨a,cp,rfl⟩,hat⟩:=hv
  refine F28.enter (args:=[.slice a l.length cp,.int .i64 most]) (by simp) ?_
  unfold c28 r28
  simp only [ZB,insVc,lenLK,ne_eq,reduceCtorEq,Zab,Za]
  refine vc_loop (fun mm ρ ds u => ∃ i,i≤l.length∧mm = l.length - i∧ds = []∧ρ 0 = .slice a l.length cp∧ρ 1 = .int .i64 most∧ρ 7 = .slice a l.length cp∧ρ 8 = .int .i64 l.length∧ρ 9 = .int .i64 i∧Mod (fun _=>False) w u∧∀ x ∈ l.take i,x.okA l.length most) (l.length - 0) ?_ ?_
  · exact ⟨0,Nat.zero_le _,rfl,rfl,by simp only [ZB,ne_eq,reduceCtorEq,Zab,Za],by simp only [ZB,ne_eq,Nat.reduceEqDiff,Zab,Za,Zaf],by simp only [ZB,ne_eq,Nat.reduceEqDiff],by simp only [ZB,ne_eq,Nat.reduceEqDiff],by simp only [ZB]; rfl,Mod.refl _ _,by simp⟩
  · rintro mm ρ ds u ⟨i,hi,rfl,rfl,h0,h1,h7,h8,h9,hmu,hok⟩
    by_cases c1 : i < l.length
    · have d1 : (i : Int) < ((l.length : Nat) : Int):=by omega
      obtain ⟨x,hxi⟩ : ∃ x,l[i]? = some x:=⟨l[i],List.getElem?_eq_getElem c1⟩
      obtain ⟨b,o,c,cur,t,f,he,hb,hsz,hex⟩:=hat i x hxi
      have hbu:=hmu.keep hb id
      rw [Nat.add_assoc] at hsz hex
      have ha : a = some ⟨b,o,none⟩:=by simpa using congrArg (fun x=>match x with | .slice a _ _=>a | _=>none) he
      subst ha
      have hi0 : (0 : Int)≤(i : Int)∧(i : Int) < ((l.length : Nat) : Int):=by omega
      have hw1 : IntKind.i64.wrap ((i : Int) + 1) = ((i + 1 : Nat) : Int):=by rw [wrap_i64 _ (by omega)]; omega
      have htk : l.take (i + 1) = l.take i ++ [x]:=by rw [List.take_add_one,hxi]; rfl
      obtain ⟨u1,hu1⟩ : ∃ u1,u1 = Vc.set (u.alloc (.cells #[.int .i64 0,.string ⟨#[]⟩,.int .u32 0,.int .u64 0,.int .u32 0,.string ⟨#[]⟩,.string ⟨#[]⟩,.int .i64 0,.string ⟨#[]⟩,.string ⟨#[]⟩] 66)) u.heap.size (.cells #[.int .i64 x.act,.string x.q.name,.int .u32 x.q.most,.int .u64 x.q.ttl,.int .u32 x.q.tries,.string x.q.dead,.string x.b.ex,.int .i64 x.b.kind,.string x.b.key,.string x.b.q] 66):=⟨_,rfl⟩
      have hmu1 : Mod (fun _=>False) u u1:=by rw [hu1]; exact ((Mod.refl _ _).alloc _).set (.inl (Nat.le_refl _))
      obtain ⟨z1,z2,z3,z4,z5⟩:=hsz0 x (List.mem_of_getElem? hxi)
      by_cases cA : (l.length : Int) > (most : Int)
      · simp only [ZB,endK,resK,packed,insVc,pickK,loadNK,storeNK,setMany,iopK,iopV,iaddrK,lenLK,isPlain,Value.cells,ne_eq,Nat.reduceEqDiff,Nat.reduceAdd,Nat.reduceLeDiff,reduceCtorEq,Zak,Zai,Zaj,Zal,Zam,Zan,Zaa,Zap,Zac,Zax,Zas,Zat,Zau,get_alloc,Zaq,Nat.reduceAdd,Nat.reduceEqDiff,h0,h1,h7,h8,h9,d1,hi0,hbu,hsz,hex,Ag.cells,Qu.cells,Bi.cells,cA]
        rw [← hu1]
        exact h _ false (hmu.trans hmu1) (fun e=>by cases e)
      · simp only [ZB,insVc,load1K,loadNK,storeNK,setMany,iopK,iopV,faddrK,iaddrK,lenSK,lenLK,isPlain,Value.cells,ne_eq,Nat.reduceEqDiff,Nat.reduceAdd,Nat.reduceLeDiff,reduceCtorEq,Za,Zaf,Zah,Zak,Zai,Zaj,Zal,Zam,Zan,Zaa,Zap,Zac,Zax,Zas,Zat,Zau,Zbe,Zao,get_alloc,Zaq,Nat.reduceAdd,Nat.reduceEqDiff,h0,h1,h7,h8,h9,d1,hi0,hbu,hsz,hex,Ag.cells,Qu.cells,Bi.cells,cA]
        rw [← hu1]
        refine rawK_max5 rfl rfl rfl rfl rfl rfl rfl rfl rfl rfl rfl ?_
        by_cases cB : max (max (max (max ((x.q.name.size : Nat) : Int) ((x.q.dead.size : Nat) : Int)) ((x.b.ex.size : Nat) : Int)) ((x.b.key.size : Nat) : Int)) ((x.b.q.size : Nat) : Int) > 400
        · simp only [ZB,endK,resK,packed,insVc,pickK,iopK,iopV,ne_eq,Nat.reduceEqDiff,reduceCtorEq,Zaa,Zag,cB]
          exact h _ false (hmu.trans hmu1) (fun e=>by cases e)
        · simp only [ZB,insVc,pickK,iopK,iopV,ne_eq,Nat.reduceEqDiff,reduceCtorEq,Zag,cB,h0,h1,h7,h8,h9,hw1]
          refine ⟨l.length - (i + 1),by omega,i + 1,by omega,rfl,rfl,hmu.trans hmu1, ?_⟩
          intro y hy
          rw [htk] at hy
          rcases List.mem_append.1 hy with hy | hy
          · exact hok y hy
          · rw [List.mem_singleton.1 hy]
            exact ⟨by omega,by omega,by omega,by omega,by omega,by omega⟩
    · have d1 : ¬ (i : Int) < ((l.length : Nat) : Int):=by omega
      have hie : i = l.length:=by omega
      rw [hie,List.take_length] at hok
      simp only [ZB,endK,resK,packed,insVc,iopK,iopV,reduceCtorEq,Zaa,h8,h9,d1]
      exact h _ true hmu (fun _=>hok)
end Go.Oct
namespace Go.Oct
open Go Go.Vc Go.VrA Go.VrF
set_option maxRecDepth 100000
def Ag.right (a : Ag) : Prop:=a.szs 400∧(a.q.most < 2 ^ 32∧a.q.ttl < 2 ^ 64∧a.q.tries < 2 ^ 32)∧a.b.inI
def doB (a : Ag) (B : Bk) : Bk :=
  if a.act.tmod 6 = 1∨a.act.tmod 6 = -1 then (B.drop a.q.name).2 else
  if a.act.tmod 6 = 2∨a.act.tmod 6 = -2 then (B.bind a.b).2 else
  if a.act.tmod 6 = 3∨a.act.tmod 6 = -3 then (B.unbind a.b).2 else
  if a.act.tmod 6 = 4∨a.act.tmod 6 = -4 then B else
  if a.act.tmod 6 = 5∨a.act.tmod 6 = -5 then (B.next a.q.name).2 else (B.declare a.q).2
def Bk.small (B : Bk) (n : Nat) : Prop:=B.qs.length≤n∧B.bs.length≤n∧B.cs.length≤n
theorem doB_small (a : Ag) {B : Bk} {n : Nat} (h : B.small n) : (doB a B).small (n + 1):=by
  obtain ⟨h1,h2,h3⟩:=h
  have triv : B.small (n + 1):=⟨by omega,by omega,by omega⟩
  unfold doB
  split
  · unfold Bk.drop
    split
    · exact triv
    · exact ⟨Nat.le_trans (List.length_filter_le _ _) (by omega),Nat.le_trans (List.length_filter_le _ _) (by omega),by show B.cs.length≤_; omega⟩
  split
  · unfold Bk.bind
    repeat' split
    all_goals first | exact triv | exact ⟨by show B.qs.length≤_; omega,by simp; omega,by show B.cs.length≤_; omega⟩
  split
  · unfold Bk.unbind
    split
    · exact triv
    · exact ⟨by show B.qs.length≤_; omega,Nat.le_trans (List.length_filter_le _ _) (by omega),by show B.cs.length≤_; omega⟩
  split
  · exact triv
  split
  · unfold Bk.next
    repeat' split
    all_goals first | exact triv | exact ⟨by show B.qs.length≤_; omega,by show B.bs.length≤_; omega,by have:=List.length_filter_le (fun c : Ct => !(c.name.toList == a.q.name.toList)) B.cs; simp [otherC]; omega⟩
  · unfold Bk.declare
    repeat' split
    all_goals first | exact triv | exact ⟨by simp; omega,by show B.bs.length≤_; omega,by show B.cs.length≤_; omega⟩
theorem bkey_sz {b : Bi} (h : b.right) : b.ex.size≤32∧b.q.size≤32∧b.key.size≤255:=by
  refine ⟨(nameB_size h.1).1,(nameB_size h.2.1).1, ?_⟩
  have hl:=h.2.2.2.2
  have e : bkey b = (str ⟨#[98]⟩).bytes ++ ((str b.ex).bytes ++ ((num' (kindN b.kind)).bytes ++ ((str b.key).bytes ++ ((str b.q).bytes ++ [])))):=rfl
  rw [e,str_bytes b.key] at hl
  have:=esc_ge b.key.data.toList
  have hs : b.key.data.toList.length = b.key.size:=by rw [Array.length_toList]; rfl
  simp only [Zby,Zai] at hl
  omega
theorem right_good {b : Bi} (h : b.right) : b.good:=by
  obtain ⟨h1,h2,h3⟩:=bkey_sz h
  exact ⟨by omega,by omega,by omega⟩
theorem nodup_len {D l : List Bi} (h1 : ∀ q,q ∈ D ↔ q ∈ l) (h2 : D.Nodup) (h3 : l.Nodup) : D.length = l.length:=((List.perm_ext_iff_of_nodup h2 h3).2 h1).length_eq
theorem Rg.valsN {B : Bk} {m : M} (h : Rg B m) : ∀ p ∈ m,p.2.length < 2 ^ 60:=fun p hp=>Nat.lt_of_le_of_lt (h.vals p hp) (by decide)
section
variable (sb mb : Nat) (h0 : 0≠mb) (c : Nat) {B : Bk} {map : M} (hr : Rg B map)
include hr
theorem allB_facts (name : ByteArray) : (thingsB ((shelf sb mb h0).under ((shelf sb mb h0).find (c,map) name).2 ⟨#[98]⟩ [])).length = B.bs.length∧∀ r ∈ thingsB ((shelf sb mb h0).under ((shelf sb mb h0).find (c,map) name).2 ⟨#[98]⟩ []),r.1.good:=by
  rw [find_state]
  obtain ⟨D,d1,d2,d3⟩:=allB_shelf sb mb h0 c hr
  rw [d1]
  refine ⟨by rw [List.length_map]; exact nodup_len d2 d3 hr.bd, ?_⟩
  intro r hx
  obtain ⟨b,hb,rfl⟩:=List.mem_map.1 hx
  exact right_good (hr.bn b ((d2 b).1 hb))
theorem exB_facts (ex : ByteArray) : (thingsB ((shelf sb mb h0).under (c,map) ⟨#[98]⟩ [str ex])).length≤B.bs.length∧∀ r ∈ thingsB ((shelf sb mb h0).under (c,map) ⟨#[98]⟩ [str ex]),r.1.key.size < 2 ^ 19:=by
  obtain ⟨D,d1,d2,d3⟩:=bindings_shelf sb mb h0 c hr ex
  rw [d1]
  refine ⟨by rw [List.length_map,nodup_len d2 d3 (hr.bd.filter _)]; exact List.length_filter_le _ _, ?_⟩
  intro r hx
  obtain ⟨b,hb,rfl⟩:=List.mem_map.1 hx
  have:=(bkey_sz (hr.bn b (mem_exL.1 ((d2 b).1 hb)).1)).2.2
  show b.key.size < 2 ^ 19
  omega
end
theorem route_any (sb mb : Nat) (h0 : 0≠mb) (c : Nat) {map : M} {B : Bk} (hr : Rg B map) (ex key : ByteArray) (m : Int) (w : World) (K : Value→World→Prop) (hAt : (shelf sb mb h0).At (c,map) w) (hg : Gl m w) (hz : 0 < w.heap.size)
    (hB : B.bs.length≤2 ^ 16) (hml : map.length * 16≤140737488355328) (hex : ex.size≤400) (hk : key.size≤400)
    (h : ∀ w' v,Mod (fun k=>k = mb) w w'→(shelf sb mb h0).At (c,map) w'→IsSl w' v (stV (B.route ex key).1)→(∀ k,v.ownBlock = some k→k≠mb)→K (.tuple #[v,.int .i64 (B.route ex key).2]) w') :
    Ok Proofs.Tryz.prog 32 #[.iface 26 (ptr sb),.string ex,.string key] w K:=by
  have hvg : ∀ k,((shelf sb mb h0).get (c,map) k).1.1.size < 2 ^ 60:=fun k=>get_size sb mb h0 _ _ (by decide) hr.valsN _
  have hmbw : mb < w.heap.size:=World.ownsMap.lt hAt.2.1
  cases hE : emptyB ex with
  | true =>
    obtain rfl : ex = ⟨#[]⟩:=by rw [emptyB_eq] at hE; exact of_decide_eq_true hE
    have hf2:=find_shelf2 sb mb h0 c hr key
    have g2:=getQ_2 key B.qs
    refine route0_c (shelf sb mb h0) (c,map) key m w _ hAt hg (by omega) (hvg _) ?_ ?_
    · intro he w' hm hA
      rw [hf2] at he hA ⊢
      have hb : bfind key B.qs 0 < 0:=by
        rcases bfind_bound key B.qs 0 with e | e
        · omega
        · exfalso; rw [if_pos e] at g2; exact he g2
      have hro : B.route ⟨#[]⟩ key = ([],21):=by unfold Bk.route; rw [if_pos hE,if_pos hb]
      rw [if_neg (by omega)] at g2
      rw [hro] at h
      simp only [g2]
      exact h w' _ hm hA (IsSl.nil w') (fun k hk=>by cases hk)
    · intro he w' g hm hA hgc
      rw [hf2] at he hA
      have hb : ¬ bfind key B.qs 0 < 0:=by
        intro e
        rw [if_neg (by omega)] at g2
        simp only [g2] at he
        cases he
      have hro : B.route ⟨#[]⟩ key = ([key.data.toList],0):=by unfold Bk.route; rw [if_pos hE,if_neg hb]
      rw [hro] at h
      refine h w' _ hm hA ⟨⟨_,_,rfl⟩, ?_⟩ ?_
      · intro i x hi
        have hk' : (⟨key.data.toList.toArray⟩ : ByteArray) = key:=by cases key; simp
        match i,hi with
        | 0,hi =>
          have hi : some (Value.string ⟨key.data.toList.toArray⟩) = some x:=hi
          rw [hk'] at hi
          exact ⟨_,_,_,_,_,_,rfl,hgc,by rw [← hi]; rfl⟩
        | i + 1,hi=>simp [stV] at hi
      · intro k hk e
        have hk : g = k:=Option.some.inj hk
        have hmm:=hA.2.1
        unfold IsM World.ownsMap at hmm
        rw [← e,← hk] at hmm
        simp [hgc] at hmm
  | false =>
    obtain ⟨f1,f2⟩:=exB_facts sb mb h0 c hr ex
    refine route1_c (shelf sb mb h0) (c,map) (pure_shelf sb mb h0 _ hml) ex key m w _ hAt hg hz hE (by omega) (by omega) (by omega) f2 ?_
    intro w' v hm ho
    rw [route_shelf sb mb h0 c hr ex key hE] at ho ⊢
    refine h w' v (hm.mono fun _ _ x=>x.elim) ((shelf sb mb h0).keep0 hAt hm) (IsSl.own (by rw [stV_len]; exact ho)) ?_
    intro k hk e
    have:=(World.ownsRow.lt ho k hk).1
    omega
end Go.Oct
