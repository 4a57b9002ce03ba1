import Derived.Test.YtbkddpckkgbbmaaGreatDoorVoQ
set_option linter.unusedSimpArgs false
set_option linter.unusedVariables false
set_option linter.unusedSectionVars false
set_option linter.unnecessarySimpa false
namespace Go.Oct
open Go Go.Vc Go.VrA
set_option maxRecDepth 100000
structure Th where
  sort : ByteArray
  queue : ByteArray
  id : Nat
  at_ : Nat
  bx : ByteArray
  bkind : Nat
  bkey : ByteArray
  bq : ByteArray
  name : ByteArray
def Th.cells (t : Th) : List Value:=[.string t.sort,.string t.queue,.int .u64 t.id,.int .u64 t.at_,.string t.bx,.int .i64 t.bkind,.string t.bkey,.string t.bq,.string t.name]
def Th.val (t : Th) : Value:=.agg t.cells.toArray
def th0 : Th:=⟨e0,e0,0,0,e0,0,e0,e0,e0⟩
def thOf (sort : ByteArray) (l : List Pt) : Th × Int :=
  let s (i : Nat) : ByteArray:=(l[i]?.map Pt.s).getD e0
  let n (i : Nat) : Nat:=(l[i]?.map Pt.n).getD 0
  if sort.toList == (⟨#[113]⟩ : ByteArray).toList then ({ th0 with sort:=sort,queue:=s 0 },0) else
  if sort.toList == (⟨#[99]⟩ : ByteArray).toList then ({ th0 with sort:=sort,name:=s 0 },0) else
  if sort.toList == (⟨#[109]⟩ : ByteArray).toList then ({ th0 with sort:=sort,queue:=s 0,id:=n 1 },0) else
  if sort.toList == (⟨#[101]⟩ : ByteArray).toList then ({ th0 with sort:=sort,at_:=n 0,queue:=s 1,id:=n 2 },0) else
  if n 1 > 9223372036854775807 then (th0,20) else ({ th0 with sort:=sort,bx:=s 0,bkind:=n 1,bkey:=s 2,bq:=s 3 },0)
def parseL : List Pt→Th × Int
  | []=>(th0,20)
  | p :: l=>if p.t = false∨fitsR l (shapeR p.s) = false then (th0,20) else thOf p.s l
theorem parseL_cons (p : Pt) (l : List Pt) : parseL (p :: l) = if p.t = false∨fitsR l (shapeR p.s) = false then (th0,20) else thOf p.s l:=rfl
def parseR (key : ByteArray) : Th × Int:=if (partsR key).2≠0 then (th0,20) else parseL (partsR key).1
noncomputable def c38r : CC:=subC c38 [1,1,1]
theorem c38_s : c38 = .seq (subC c38 [0]) (.seq (subC c38 [1,0]) (.seq (subC c38 [1,1,0]) c38r)):=rfl
theorem shapeR_cases (s : ByteArray) : shapeR s = ⟨#[115]⟩∨shapeR s = ⟨#[115,110]⟩∨shapeR s = ⟨#[110,115,110]⟩∨shapeR s = ⟨#[115,110,115,115]⟩∨shapeR s = ⟨#[]⟩:=by
  unfold shapeR
  split
  · exact .inl rfl
  split
  · exact .inl rfl
  split
  · exact .inr (.inl rfl)
  split
  · exact .inr (.inr (.inl rfl))
  split
  · exact .inr (.inr (.inr (.inl rfl)))
  · exact .inr (.inr (.inr (.inr rfl)))
theorem shapeR_ascii (s : ByteArray) : (shapeR s).size < 2 ^ 40∧∀ i (h : i < (shapeR s).size),((shapeR s)[i]'h).toNat < 128:=by
  rcases shapeR_cases s with e | e | e | e | e <;> rw [e] <;> refine ⟨by decide, ?_⟩ <;> decide
theorem condP_gen {A B : Env→List Deferred→World→Prop} {ρ : Env} {ds : List Deferred} {w : World} {v : Value} (h : ∀ W,W = w→condP A B ρ ds W v) : condP A B ρ ds w v:=h w rfl
theorem parse_tail (g cap rb : Nat) (cur : Array Value) (p : Pt) (t : List Pt) (ρ : Env) (w : World) (K : Value→World→Prop) (hg : w.heap[g]? = some (.cells cur 118 (0,0)))
    (hcur : cur.toList.take ((t.length + 1) * 3) = (p :: t).flatMap Pt.cells) (hcap : t.length + 1≤cap) (hcap2 : cap≤maxLen) (hr : w.heap[rb]? = some (.cells th0.cells.toArray 98 (0,0))) (hne : g≠rb)
    (hfit : fitsR t (shapeR p.s) = true) (h4 : ρ 4 = .slice (some ⟨g,0,none⟩) (t.length + 1) cap) (h2 : ρ 2 = ptr rb)
    (h : ∀ w',Mod (fun k=>k = rb) w w'→K (.tuple #[(thOf p.s t).1.val,.int .i64 (thOf p.s t).2]) w') :
    vc Proofs.Tryz.prog none 116 c38r (endQ Proofs.Tryz.prog [RV.cN 2 9,RV.tmp 3] K) ρ [] w:=by
  unfold c38r
  have hrow0 : (cur.toList.drop 0).take ((p :: t).length * 3) = (p :: t).flatMap Pt.cells:=by simpa using hcur
  have cell : ∀ i q,(p :: t)[i]? = some q→cur[i * 3 + 1]? = some (.int .u64 q.n)∧cur[i * 3 + 2]? = some (.string q.s):=by
    intro i q hq
    obtain ⟨hsz,hex⟩:=row_at (s:=3) (cells:=Pt.cells) (fun _=>rfl) hrow0 hq (by decide)
    have a1 : (cur.extract (0 + i * 3) (0 + i * 3 + 3))[1]? = some (.int .u64 q.n):=by rw [hex]; rfl
    have a2 : (cur.extract (0 + i * 3) (0 + i * 3 + 3))[2]? = some (.string q.s):=by rw [hex]; rfl
    rw [Array.getElem?_extract] at a1 a2
    have b1 : 1 < min (0 + i * 3 + 3) cur.size - (0 + i * 3)∧cur[i * 3 + 1]? = some (.int .u64 q.n):=by simpa using a1
    have b2 : 2 < min (0 + i * 3 + 3) cur.size - (0 + i * 3)∧cur[i * 3 + 2]? = some (.string q.s):=by simpa using a2
    exact ⟨b1.2,b2.2⟩
  have c0:=(cell 0 p rfl).2
  have c0' : cur[2]? = some (.string p.s):=c0
  simp only [ZB,subC,c38,insVc,load1K,storeNK,setMany,sopK,sopV,faddrK,iaddrK,buildK,fillL,boundOf,slLK,isPlain,Value.cells,ne_eq,Nat.reduceEqDiff,Nat.reduceAdd,Nat.reduceLeDiff,Zbk,Zbn,Za,Zah,Zak,Zai,Zaj,Zbc,Zbd,Zba,Zbb,Zal,Zam,Zan,Zbf,Zac,Int.reduceLE,Int.reduceToNat,Zax,Zbw,Zbp,Zbs,Zas,Zat,Zau,Zbg,Zbe,Zao,h4,hg,c0']
  have hlen : t.length = (shapeR p.s).size:=by
    unfold fitsR at hfit
    simp only [Zbo] at hfit
    have:=fitsL_len _ _ hfit.2
    rw [Array.length_toList] at this
    exact this
  have hne0 : (shapeR p.s).size≠0:=by
    unfold fitsR at hfit
    simp only [Zbo,decide_eq_true_eq] at hfit
    exact hfit.1
  refine ⟨by omega,⟨by omega,by omega⟩,condP_gen ?_⟩
  intro w1 hw1
  have hm1 : Mod (fun _=>False) w w1:=by rw [hw1]; exact ((Mod.refl _ _).alloc _).set (.inl (Nat.le_refl _))
  have ht1 : w1.heap[w.heap.size]? = some (.cells ({ th0 with sort:=p.s } : Th).cells.toArray 98 (0,0)):=by rw [hw1]; simp only [size_alloc,Zbe,Zao,size_alloc]; rfl
  clear hw1
  have hg1:=hm1.keep hg id
  have hr1:=hm1.keep hr id
  have hrl:=lt_of_get hr
  have hgl:=lt_of_get hg
  have hcne : ¬ cap = 1:=by omega
  have hth : ({ th0 with sort:=p.s } : Th).cells.toArray = #[.string p.s,.string ⟨#[]⟩,.int .u64 0,.int .u64 0,.string ⟨#[]⟩,.int .i64 0,.string ⟨#[]⟩,.string ⟨#[]⟩,.string ⟨#[]⟩]:=rfl
  have hth0 : th0.cells.toArray = #[.string ⟨#[]⟩,.string ⟨#[]⟩,.int .u64 0,.int .u64 0,.string ⟨#[]⟩,.int .i64 0,.string ⟨#[]⟩,.string ⟨#[]⟩,.string ⟨#[]⟩]:=rfl
  rw [hth] at ht1
  rw [hth0] at hr1
  refine condP_split ?_ ?_
  · intro hs
    obtain ⟨q0',ht⟩ : ∃ q,t = [q]:=by
      have : (shapeR p.s).size = 1:=by unfold shapeR; rw [if_pos hs]; rfl
      match t,hlen with
      | [q],_=>exact ⟨q,rfl⟩
      | [],hl=>rw [this] at hl; simp at hl
      | _ :: _ :: _,hl=>rw [this] at hl; simp at hl
    subst ht
    have c1 : cur[5]? = some (.string q0'.s):=(cell 1 q0' rfl).2
    simp only [ZB,endK,resK,resN,packed,insVc,load1K,loadNK,storeK,storeNK,setMany,faddrK,iaddrK,isPlain,ne_eq,Nat.reduceEqDiff,Nat.reduceAdd,Nat.reduceLT,Nat.reduceLeDiff,Zak,Zai,Zaj,Zal,Zam,Zan,Zaa,Zap,Zag,Int.reduceLE,Int.reduceToNat,Zb,Zaz,Zav,Zar,Zay,Zaw,Zbp,Zas,Zat,Zau,Zbe,Addr.add_lit,hcne,hg1,c1,ht1,hr1,get_set,Nat.ne_of_lt hrl,lt_of_get ht1,lt_of_get hr1,h2]
    refine ⟨by decide, ?_⟩
    have hT : thOf p.s [q0'] = ({ th0 with sort:=p.s,queue:=q0'.s },0):=by unfold thOf; simp only []; rw [if_pos hs]; rfl
    rw [hT] at h
    exact h _ (((hm1.mono (fun _ _ x=>x.elim)).set (.inl (Nat.le_refl _))).set (.inr rfl))
  intro hs
  simp only [ZB,insVc,sopK,sopV,ne_eq,Nat.reduceEqDiff]
  refine condP_split ?_ ?_
  · intro hs2
    obtain ⟨q0',ht⟩ : ∃ q,t = [q]:=by
      have : (shapeR p.s).size = 1:=by unfold shapeR; rw [if_neg (by rw [hs]; exact Bool.false_ne_true),if_pos hs2]; rfl
      match t,hlen with
      | [q],_=>exact ⟨q,rfl⟩
      | [],hl=>rw [this] at hl; simp at hl
      | _ :: _ :: _,hl=>rw [this] at hl; simp at hl
    subst ht
    have c1 : cur[5]? = some (.string q0'.s):=(cell 1 q0' rfl).2
    simp only [ZB,endK,resK,resN,packed,insVc,load1K,loadNK,storeK,storeNK,setMany,faddrK,iaddrK,isPlain,ne_eq,Nat.reduceEqDiff,Nat.reduceAdd,Nat.reduceLT,Nat.reduceLeDiff,Zak,Zai,Zaj,Zal,Zam,Zan,Zaa,Zap,Zag,Int.reduceLE,Int.reduceToNat,Zb,Zaz,Zav,Zar,Zay,Zaw,Zbp,Zas,Zat,Zau,Zbe,Zao,Addr.add_lit,hcne,hg1,c1,ht1,hr1,get_set,Nat.ne_of_lt hrl,lt_of_get ht1,lt_of_get hr1,h2]
    refine ⟨by decide, ?_⟩
    have hT : thOf p.s [q0'] = ({ th0 with sort:=p.s,name:=q0'.s },0):=by unfold thOf; simp only []; rw [if_neg (by rw [hs]; exact Bool.false_ne_true),if_pos hs2]; rfl
    rw [hT] at h
    exact h _ (((hm1.mono (fun _ _ x=>x.elim)).set (.inl (Nat.le_refl _))).set (.inr rfl))
  intro hs2
  simp only [ZB,insVc,sopK,sopV,ne_eq,Nat.reduceEqDiff]
  refine condP_split ?_ ?_
  · intro hs3
    obtain ⟨q0',q1',ht⟩ : ∃ q q',t = [q,q']:=by
      have : (shapeR p.s).size = 2:=by unfold shapeR; rw [if_neg (by rw [hs]; exact Bool.false_ne_true),if_neg (by rw [hs2]; exact Bool.false_ne_true),if_pos hs3]; rfl
      match t,hlen with
      | [q,q'],_=>exact ⟨q,q',rfl⟩
      | [],hl=>rw [this] at hl; simp at hl
      | [_],hl=>rw [this] at hl; simp at hl
      | _ :: _ :: _ :: _,hl=>rw [this] at hl; simp at hl
    subst ht
    have c1 : cur[5]? = some (.string q0'.s):=(cell 1 q0' rfl).2
    have c2 : cur[7]? = some (.int .u64 q1'.n):=(cell 2 q1' rfl).1
    simp only [Nat.reduceAdd,Zai,Zaj,Nat.zero_add]
    refine draw_d (fun W=>W.heap[g]? = some (.cells cur 118 (0,0))) (by kernel_rfl) (by kernel_rfl) (by kernel_rfl) (by kernel_rfl) hg1 ?_
    simp only [ZB,insVc,loadNK,storeK,faddrK,iaddrK,ne_eq,Nat.reduceEqDiff,Nat.reduceAdd,Zac,Zag,Int.reduceLE,Int.reduceToNat,pureI,Zbp,Zbs,vcD_nil,vcD_cons,stepD_pure,stepD_load,stepD_step,kindI,loadI,Addr.add_lit,hcne]
    refine ⟨by decide, ?_⟩
    refine loadD1 (b:=g) (o:=5) (v:=.string q0'.s) rfl (fun W hW=>⟨_,_,_,hW,c1⟩) ?_
    refine ⟨by decide, ?_⟩
    refine loadD1 (b:=g) (o:=7) (v:=.int .u64 q1'.n) rfl (fun W hW=>⟨_,_,_,hW,c2⟩) ?_
    simp only [ZB,endK,resK,resN,packed,insVc,storeNK,setMany,isPlain,ne_eq,Nat.reduceEqDiff,Nat.reduceAdd,Nat.reduceLT,Nat.reduceLeDiff,Zak,Zai,Zaj,Zal,Zam,Zan,Zaa,Zap,Zac,Zag,Zb,Zaz,Zav,Zar,Zay,Zaw,Zas,Zat,Zau,Zbe,hg1,ht1,hr1,get_set,Nat.ne_of_lt hgl,Nat.ne_of_lt hrl,lt_of_get ht1,lt_of_get hr1,h2]
    have hT : thOf p.s [q0',q1'] = ({ th0 with sort:=p.s,queue:=q0'.s,id:=q1'.n },0):=by unfold thOf; simp only []; rw [if_neg (by rw [hs]; exact Bool.false_ne_true),if_neg (by rw [hs2]; exact Bool.false_ne_true),if_pos hs3]; rfl
    rw [hT] at h
    exact h _ (((((hm1.mono (fun _ _ x=>x.elim)).drew).set (.inl (Nat.le_refl _))).set (.inl (Nat.le_refl _))).set (.inr rfl))
  intro hs3
  simp only [ZB,insVc,sopK,sopV,ne_eq,Nat.reduceEqDiff]
  refine condP_split ?_ ?_
  · intro hs4
    obtain ⟨qa,qb,qc,ht⟩ : ∃ qa qb qc,t = [qa,qb,qc]:=by
      have : (shapeR p.s).size = 3:=by unfold shapeR; rw [if_neg (by rw [hs]; exact Bool.false_ne_true),if_neg (by rw [hs2]; exact Bool.false_ne_true),if_neg (by rw [hs3]; exact Bool.false_ne_true),if_pos hs4]; rfl
      match t,hlen with
      | [qa,qb,qc],_=>exact ⟨qa,qb,qc,rfl⟩
      | [],hl=>rw [this] at hl; simp at hl
      | [_],hl=>rw [this] at hl; simp at hl
      | [_,_],hl=>rw [this] at hl; simp at hl
      | _ :: _ :: _ :: _ :: _,hl=>rw [this] at hl; simp at hl
    subst ht
    have c1 : cur[4]? = some (.int .u64 qa.n):=(cell 1 qa rfl).1
    have c2 : cur[8]? = some (.string qb.s):=(cell 2 qb rfl).2
    have c3 : cur[10]? = some (.int .u64 qc.n):=(cell 3 qc rfl).1
    simp only [Nat.reduceAdd,Zai,Zaj,Nat.zero_add]
    refine draw_d (fun W=>W.heap[g]? = some (.cells cur 118 (0,0))) (by kernel_rfl) (by kernel_rfl) (by kernel_rfl) (by kernel_rfl) hg1 ?_
    simp only [ZB,insVc,loadNK,storeK,faddrK,iaddrK,ne_eq,Nat.reduceEqDiff,Nat.reduceAdd,Zac,Zag,Int.reduceLE,Int.reduceToNat,pureI,Zbp,Zbs,Nat.reduceMul,vcD_nil,vcD_cons,stepD_pure,stepD_load,stepD_step,kindI,loadI,Addr.add_lit,hcne]
    refine ⟨by decide, ?_⟩
    refine loadD1 (b:=g) (o:=4) (v:=.int .u64 qa.n) rfl (fun W hW=>⟨_,_,_,hW,c1⟩) ?_
    refine ⟨by decide, ?_⟩
    refine loadD1 (b:=g) (o:=8) (v:=.string qb.s) rfl (fun W hW=>⟨_,_,_,hW,c2⟩) ?_
    refine ⟨by decide, ?_⟩
    refine loadD1 (b:=g) (o:=10) (v:=.int .u64 qc.n) rfl (fun W hW=>⟨_,_,_,hW,c3⟩) ?_
    simp only [ZB,endK,resK,resN,packed,insVc,storeNK,setMany,isPlain,ne_eq,Nat.reduceEqDiff,Nat.reduceAdd,Nat.reduceLT,Nat.reduceLeDiff,Zak,Zai,Zaj,Zal,Zam,Zan,Zaa,Zap,Zac,Zag,Zb,Zaz,Zav,Zar,Zay,Zaw,Zas,Zat,Zau,Zbe,hg1,ht1,hr1,get_set,Nat.ne_of_lt hgl,Nat.ne_of_lt hrl,lt_of_get ht1,lt_of_get hr1,h2]
    have hT : thOf p.s [qa,qb,qc] = ({ th0 with sort:=p.s,at_:=qa.n,queue:=qb.s,id:=qc.n },0):=by unfold thOf; simp only []; rw [if_neg (by rw [hs]; exact Bool.false_ne_true),if_neg (by rw [hs2]; exact Bool.false_ne_true),if_neg (by rw [hs3]; exact Bool.false_ne_true),if_pos hs4]; rfl
    rw [hT] at h
    exact h _ ((((((hm1.mono (fun _ _ x=>x.elim)).drew).set (.inl (Nat.le_refl _))).set (.inl (Nat.le_refl _))).set (.inl (Nat.le_refl _))).set (.inr rfl))
  intro hs4
  obtain ⟨qa,qb,qc,qd,ht⟩ : ∃ qa qb qc qd,t = [qa,qb,qc,qd]:=by
    have hb : (shapeR p.s).size = 4:=by
      have hx : shapeR p.s = ⟨#[115,110,115,115]⟩∨shapeR p.s = ⟨#[]⟩:=by
        unfold shapeR
        rw [if_neg (by rw [hs]; exact Bool.false_ne_true),if_neg (by rw [hs2]; exact Bool.false_ne_true),if_neg (by rw [hs3]; exact Bool.false_ne_true),if_neg (by rw [hs4]; exact Bool.false_ne_true)]
        split
        · exact .inl rfl
        · exact .inr rfl
      rcases hx with e | e
      · rw [e]; rfl
      · rw [e] at hne0; exact (hne0 rfl).elim
    match t,hlen with
    | [qa,qb,qc,qd],_=>exact ⟨qa,qb,qc,qd,rfl⟩
    | [],hl=>rw [hb] at hl; simp at hl
    | [_],hl=>rw [hb] at hl; simp at hl
    | [_,_],hl=>rw [hb] at hl; simp at hl
    | [_,_,_],hl=>rw [hb] at hl; simp at hl
    | _ :: _ :: _ :: _ :: _ :: _,hl=>rw [hb] at hl; simp at hl
  subst ht
  have c1 : cur[5]? = some (.string qa.s):=(cell 1 qa rfl).2
  have c2 : cur[7]? = some (.int .u64 qb.n):=(cell 2 qb rfl).1
  have c3 : cur[11]? = some (.string qc.s):=(cell 3 qc rfl).2
  have c4 : cur[14]? = some (.string qd.s):=(cell 4 qd rfl).2
  have hT : thOf p.s [qa,qb,qc,qd] = if qb.n > 9223372036854775807 then (th0,20) else ({ th0 with sort:=p.s,bx:=qa.s,bkind:=qb.n,bkey:=qc.s,bq:=qd.s },0):=by unfold thOf; simp only []; rw [if_neg (by rw [hs]; exact Bool.false_ne_true),if_neg (by rw [hs2]; exact Bool.false_ne_true),if_neg (by rw [hs3]; exact Bool.false_ne_true),if_neg (by rw [hs4]; exact Bool.false_ne_true)]; rfl
  rw [hT] at h
  simp only [ZB,insVc,load1K,iopK,iopV,faddrK,iaddrK,ne_eq,Nat.reduceEqDiff,Nat.reduceAdd,reduceCtorEq,Zai,Zaj,Zag,Int.reduceLE,Int.reduceToNat,Zbs,Addr.add_lit,hcne,hg1,c2]
  refine ⟨by decide, ?_⟩
  refine condP_split ?_ ?_
  · intro hbig
    have hbig' : qb.n > 9223372036854775807:=by have:=of_decide_eq_true hbig; omega
    rw [if_pos hbig'] at h
    simp only [ZB,endK,resK,resN,packed,insVc,storeNK,setMany,buildK,fillL,isPlain,ne_eq,Nat.reduceEqDiff,Nat.reduceAdd,Nat.reduceLeDiff,Zak,Zai,Zaj,Zal,Zam,Zan,Zaa,Zap,Zb,Zaz,Zav,Zar,Zay,Zaw,Zas,Zat,Zau,h2,hr1,get_set_same _ _ _ (lt_of_get hr1)]
    exact h _ ((hm1.mono (fun _ _ x=>x.elim)).set (.inr rfl))
  intro hbig
  have hbig' : ¬ qb.n > 9223372036854775807:=by have:=of_decide_eq_false hbig; omega
  rw [if_neg hbig'] at h
  have hconv : IntKind.i64.wrap (qb.n : Int) = (qb.n : Int):=wrap_i64 _ (by omega)
  simp only [ZB]
  refine draw_d (fun W=>W.heap[g]? = some (.cells cur 118 (0,0))) (by kernel_rfl) (by kernel_rfl) (by kernel_rfl) (by kernel_rfl) hg1 ?_
  simp only [ZB,insVc,loadNK,storeNK,convK,faddrK,iaddrK,buildK,fillL,Value.cells,ne_eq,Nat.reduceEqDiff,Nat.reduceAdd,Nat.reduceLeDiff,Zak,Zai,Zaj,Zbc,Zbd,Zba,Zbb,Zac,Zag,Int.reduceLE,Int.reduceToNat,pureI,Zbp,Zbs,Nat.reduceMul,vcD_nil,vcD_cons,stepD_pure,stepD_load,stepD_step,kindI,loadI]
  refine ⟨by decide, ?_⟩
  refine loadD1 (b:=g) (o:=5) (v:=.string qa.s) rfl (fun W hW=>⟨_,_,_,hW,c1⟩) ?_
  refine ⟨by decide, ?_⟩
  refine loadD1 (b:=g) (o:=7) (v:=.int .u64 qb.n) rfl (fun W hW=>⟨_,_,_,hW,c2⟩) ?_
  refine ⟨by decide, ?_⟩
  refine loadD1 (b:=g) (o:=11) (v:=.string qc.s) rfl (fun W hW=>⟨_,_,_,hW,c3⟩) ?_
  refine ⟨by decide, ?_⟩
  refine loadD1 (b:=g) (o:=14) (v:=.string qd.s) rfl (fun W hW=>⟨_,_,_,hW,c4⟩) ?_
  simp only [ZB,endK,resK,resN,packed,insVc,storeNK,setMany,isPlain,ne_eq,Nat.reduceEqDiff,Nat.reduceAdd,Nat.reduceLeDiff,Zak,Zai,Zaj,Zbc,Zbd,Zba,Zbb,Zal,Zam,Zan,Zaa,Zap,Zac,Zag,Zb,Zaz,Zav,Zar,Zay,Zaw,Zas,Zat,Zau,Zbe,hg1,ht1,hr1,get_set,Nat.ne_of_lt hgl,Nat.ne_of_lt hrl,lt_of_get ht1,lt_of_get hr1,h2,hconv]
  exact h _ ((((hm1.mono (fun _ _ x=>x.elim)).drew).set (.inl (Nat.le_refl _))).set (.inr rfl))
theorem parse_c (key : ByteArray) (w : World) (K : Value→World→Prop)
    (h : ∀ w',Mod (fun _=>False) w w'→K (.tuple #[(parseR key).1.val,.int .i64 (parseR key).2]) w') :
    Ok Proofs.Tryz.prog 38 #[.string key] w K:=by
  refine F38.enter (args:=[.string key]) (by simp) ?_
  rw [c38_s]
  unfold r38
  simp only [ZB,subC,c38,insVc,Value.cells,ne_eq,reduceCtorEq,Zab,Zad,Zae,Za]
  refine callK_gen ?_
  intro w0 hw0
  have hm0 : Mod (fun _=>False) w w0:=by rw [hw0]; exact (Mod.refl _ _).alloc _
  have hr0 : w0.heap[w.heap.size]? = some (.cells th0.cells.toArray 98 (0,0)):=by rw [hw0]; exact get_alloc_new _ _
  clear hw0
  refine parts_c key w0 _ ?_
  intro w1 v hm1 hown
  have hr1:=hm1.keep hr0 id
  have hm01:=hm0.trans hm1
  simp only [ZB,insVc,extK,ne_eq,Nat.reduceEqDiff,Za,Zaf,Zah]
  have hbad : parseR key = (th0,20)→∀ w2,Mod (fun _=>False) w w2→K (.tuple #[th0.val,.int .i64 20]) w2:=by
    intro hp w2 hm2
    rw [hp] at h
    exact h w2 hm2
  have hdead : ∀ (w2 : World),Mod (fun _=>False) w w2→w2.heap[w.heap.size]? = some (.cells th0.cells.toArray 98 (0,0))→parseR key = (th0,20)→K (.tuple #[th0.val,.int .i64 20]) (Vc.set w2 w.heap.size (.cells th0.cells.toArray 98 (0,0))):=fun w2 hm2 _ hp=>hbad hp _ (hm2.set (.inl (Nat.le_refl _)))
  have hth : th0.cells.toArray = #[.string ⟨#[]⟩,.string ⟨#[]⟩,.int .u64 0,.int .u64 0,.string ⟨#[]⟩,.int .i64 0,.string ⟨#[]⟩,.string ⟨#[]⟩,.string ⟨#[]⟩]:=rfl
  have hpr : ∀ l e,partsR key = (l,e)→parseR key = if e≠0 then (th0,20) else parseL l:=by
    intro l e hx; unfold parseR; rw [hx]
  revert hown hpr
  generalize partsR key = x
  obtain ⟨l,e⟩:=x
  intro hown hpr
  have hpr:=hpr l e rfl
  simp only [] at hown
  by_cases he : e = 0
  · subst he
    rw [if_neg (by simp)] at hpr
    cases l with
    | nil =>
      obtain ⟨a,c,rfl⟩ : ∃ a c,v = .slice a 0 c:=by
        rcases hown.2 with ⟨rfl,_⟩ | ⟨g,cap,cur,rfl,_⟩ <;> exact ⟨_,_,rfl⟩
      refine draw_d (fun _=>True) (by kernel_rfl) (by kernel_rfl) (by kernel_rfl) (by kernel_rfl) trivial ?_
      have hr1' : w1.drew.heap[w.heap.size]? = _:=hr1
      rw [hth] at hr1' hdead
      have hz00 : (((0 : Nat) : Int) == 0) = true:=rfl
      simp only [ZB,endK,resK,resN,packed,insVc,pickK,storeNK,setMany,iopK,iopV,lenLK,buildK,fillL,isPlain,ne_eq,Nat.reduceEqDiff,Nat.reduceAdd,Nat.reduceLeDiff,reduceCtorEq,Zak,Zai,Zaj,Zal,Zam,Zan,Zaa,Zap,Zac,Zag,Int.reduceBNe,Zb,Zaz,Zav,Zar,Zay,Zaw,pureI,Zas,Zat,Zau,vcD_nil,vcD_cons,vcD_gate,gateD_true,gateD_false,stepD_pure,kindI,loadI,hz00,hr1',get_set_same _ _ _ (lt_of_get hr1')]
      exact hdead w1.drew hm01.drew hr1' hpr
    | cons p t =>
      obtain ⟨g,cap,cur,rfl,hgB,hg1,hlc,hcap2,hcs,hcur⟩ : ∃ g cap cur,v = .slice (some ⟨g,0,none⟩) (p :: t).length cap∧w0.heap.size≤g∧w1.heap[g]? = some (.cells cur 118 (0,0))∧(p :: t).length≤cap∧cap≤maxLen∧cur.size = cap * 3∧cur.toList.take ((p :: t).length * 3) = (p :: t).flatMap Pt.cells:=by
        rcases hown.2 with ⟨_,h0⟩ | ⟨g,cap,cur,e,r⟩
        · simp at h0
        · exact ⟨g,cap,cur,e,r⟩
      have hrow0 : (cur.toList.drop 0).take ((p :: t).length * 3) = (p :: t).flatMap Pt.cells:=by simpa using hcur
      obtain ⟨hsz,hex⟩:=row_at (s:=3) (cells:=Pt.cells) (fun _=>rfl) hrow0 (j:=0) (p:=p) rfl (by decide)
      have hc0 : cur[0]? = some (.bool p.t):=by
        have h0' : (cur.extract (0 + 0 * 3) (0 + 0 * 3 + 3))[0]? = some (.bool p.t):=by rw [hex]; rfl
        rw [Array.getElem?_extract] at h0'
        have h1' : 0 < min (0 + 0 * 3 + 3) cur.size - (0 + 0 * 3)∧cur[0]? = some (.bool p.t):=by simpa using h0'
        exact h1'.2
      have hc2 : cur[2]? = some (.string p.s):=by
        have h0' : (cur.extract (0 + 0 * 3) (0 + 0 * 3 + 3))[2]? = some (.string p.s):=by rw [hex]; rfl
        rw [Array.getElem?_extract] at h0'
        have h1' : 2 < min (0 + 0 * 3 + 3) cur.size - (0 + 0 * 3)∧cur[2]? = some (.string p.s):=by simpa using h0'
        exact h1'.2
      refine draw_d (fun W=>W.heap[g]? = some (.cells cur 118 (0,0))) (by kernel_rfl) (by kernel_rfl) (by kernel_rfl) (by kernel_rfl) hg1 ?_
      have hr1' : w1.drew.heap[w.heap.size]? = _:=hr1
      rw [hth] at hr1' hdead
      have hlz : (((p :: t).length : Nat) : Int) = (t.length : Int) + 1:=by simp
      have hl0 : ((((p :: t).length : Nat) : Int) == 0) = false:=by rw [beq_eq_false_iff_ne]; omega
      have hl1 : (0 : Int)≤0∧(0 : Int) < ((p :: t).length : Nat):=by omega
      generalize hL : (p :: t).length = L at *
      simp only [ZB,insVc,pickK,iopK,iopV,notK,faddrK,iaddrK,lenLK,ne_eq,Nat.reduceEqDiff,reduceCtorEq,Zac,Zag,Int.reduceToNat,Int.reduceBNe,pureI,Zbp,vcD_nil,vcD_cons,vcD_gate,gateD_true,stepD_pure,stepD_load,kindI,loadI,hl0,hl1]
      refine loadD1 (b:=g) (o:=0) (v:=.bool p.t) rfl (fun W hW=>⟨_,_,_,hW,hc0⟩) ?_
      cases hpt : p.t with
      | false =>
        have hpr2 : parseR key = (th0,20):=by rw [hpr,parseL_cons,if_pos (.inl hpt)]
        simp only [ZB,endK,resK,resN,packed,insVc,storeNK,setMany,buildK,fillL,isPlain,ne_eq,Nat.reduceEqDiff,Nat.reduceAdd,Nat.reduceLeDiff,Zak,Zai,Zaj,Zal,Zam,Zan,Zaa,Zap,Zac,Zb,Zaz,Zav,Zar,Zay,Zaw,Zas,Zat,Zau,gateD_false,hr1',get_set_same _ _ _ (lt_of_get hr1')]
        exact hdead w1.drew hm01.drew hr1' hpr2
      | true =>
        have hLt : L - 1 = t.length:=by rw [← hL]; rfl
        have hrowT : ∀ W,W.heap[g]? = some (.cells cur 118 (0,0))→t≠[]→RowAt W (.slice (if cap = 1 then some ⟨g,0,none⟩ else some (Addr.add ⟨g,0,none⟩ 3)) t.length (cap - 1)) 118 3 Pt.cells t:=by
          intro W hW hne
          have htl : t.length≠0:=fun x=>hne (List.eq_nil_of_length_eq_zero x)
          rw [if_neg (by omega)]
          refine ⟨g,3,cap - 1,cur,rfl,hW, ?_⟩
          have e1 : L * 3 = 3 + t.length * 3:=by rw [← hL]; simp; omega
          rw [e1] at hcur
          have e2:=congrArg (List.drop 3) hcur
          rw [List.drop_take] at e2
          have e3 : 3 + t.length * 3 - 3 = t.length * 3:=by omega
          rw [e3] at e2
          rw [e2]
          simp [Pt.cells]
        have hsh:=shapeR_ascii p.s
        simp only [ZB,insVc,notK,faddrK,iaddrK,boundOf,slLK,ne_eq,Nat.reduceEqDiff,Zbk,Zbn,Zad,Zae,Zac,Zag,Int.reduceLE,Int.reduceToNat,Zax,pureI,Zbp,Zbs,gateD_true,stepD_pure,stepD_load,stepD_step,kindI,loadI,hl1,hLt]
        refine ⟨⟨by omega,by omega⟩, ?_⟩
        refine loadD1 (b:=g) (o:=2) (v:=.string p.s) rfl (fun W hW=>⟨_,_,_,hW,hc2⟩) ?_
        refine shape_c p.s w1.drew _ ?_
        refine ⟨hg1, ?_⟩
        refine fits_c t (shapeR p.s) _ w1.drew _ ⟨_,_,rfl⟩ (hrowT w1.drew hg1) (by simp only [maxLen] at hcap2; omega) hsh.1 hsh.2 ?_
        intro w2 hm2
        have hg2:=hm2.keep (show w1.drew.heap[g]? = _ from hg1) id
        have hr2:=hm2.keep hr1' id
        have hm02:=hm01.drew.trans hm2
        refine ⟨hg2, ?_⟩
        simp only []
        refine condP_split ?_ ?_
        · intro hx
          have hx' : fitsR t (shapeR p.s) = false:=by simpa using hx
          have hpr2 : parseR key = (th0,20):=by rw [hpr,parseL_cons,if_pos (.inr hx')]
          simp only [ZB,endK,resK,resN,packed,insVc,storeNK,setMany,buildK,fillL,isPlain,ne_eq,Nat.reduceEqDiff,Nat.reduceAdd,Nat.reduceLeDiff,Zak,Zai,Zaj,Zal,Zam,Zan,Zaa,Zap,Zb,Zaz,Zav,Zar,Zay,Zaw,Zas,Zat,Zau,hr2,get_set_same _ _ _ (lt_of_get hr2)]
          exact hdead w2 hm02 hr2 hpr2
        · intro hx
          have hx' : fitsR t (shapeR p.s) = true:=by simpa using hx
          have hpr2 : parseR key = thOf p.s t:=by rw [hpr,parseL_cons,if_neg (by rw [hpt,hx']; simp)]
          rw [hpr2] at h
          simp only [ZB]
          have hL1 : L - 1 + 1 = L:=by have : L = t.length + 1:=by rw [← hL]; rfl
                                       omega
          refine parse_tail g cap w.heap.size cur p t _ w2 K hg2 ?_ (by omega) hcap2 ?_ ?_ hx' (by simp only [ZB,ne_eq,Nat.reduceEqDiff,← hLt,hL1]) (by simp only [ZB,ne_eq,Nat.reduceEqDiff]) ?_
          · rw [← hcur,← hLt,hL1]
          · rw [hth]; exact hr2
          · have:=lt_of_get hr0; omega
          · intro w3 hm3
            exact h w3 (hm02.then hm3 (fun i hi hk=>by omega))
  · rw [if_pos he] at hpr
    have he' : (e != 0) = true:=by simpa using he
    refine draw_d (fun _=>True) (by kernel_rfl) (by kernel_rfl) (by kernel_rfl) (by kernel_rfl) trivial ?_
    have hr1' : w1.drew.heap[w.heap.size]? = _:=hr1
    rw [hth] at hr1' hdead
    simp only [ZB,endK,resK,resN,packed,insVc,pickK,storeNK,setMany,iopK,iopV,buildK,fillL,isPlain,ne_eq,Nat.reduceEqDiff,Nat.reduceAdd,Nat.reduceLeDiff,reduceCtorEq,Zak,Zai,Zaj,Zal,Zam,Zan,Zaa,Zap,Zac,Zag,Zb,Zaz,Zav,Zar,Zay,Zaw,pureI,Zas,Zat,Zau,vcD_nil,vcD_cons,vcD_gate,gateD_false,stepD_pure,kindI,loadI,he',hr1',get_set_same _ _ _ (lt_of_get hr1')]
    exact hdead w1.drew hm01.drew hr1' hpr
end Go.Oct
