import Derived.Test.YtpggpopbkmgodaaGreatDoorVoP
import Derived.Lib.OthersKept
set_option linter.unusedSimpArgs false
set_option linter.unusedVariables false
set_option linter.unusedSectionVars false
set_option linter.unnecessarySimpa false
namespace Go.Oct
open Go Go.Vc Go.VrA Go.Proofs.Tryz
set_option maxRecDepth 100000
section
variable {P:Program} {n:Nat} {go:Value→World→Prop} {ρ:Env} {ds:List Deferred} {w:World} {o:Oper}
theorem rawK_range {x:Operand} {t:TypeId} {s:ByteArray} (ho:o.op = .range t x) (hx:inB n x=true) (ht:P.underlying t=some .string) (hv:ev ρ x = .string s)
  (h:go (ptr w.heap.size) (w.alloc (.stringIter s 0))):RawK P go ρ ds n o w:=by
 unfold RawK
 simp only [execOp,ho,Sem.run_bind,mkA_eval n ρ ds x hx,hv,run_range_string (P:=P) w t s ht,Result.andThen,pure,Sem.run]
 exact h
theorem rawK_next {x:Operand} {v:Value} {w':World} {b:Bool} (ho:o.op = .next x b) (hx:inB n x=true) (hr:(Instr.next (ev ρ x) b o.type).run P w = .ok v w') (h:go v w'):RawK P go ρ ds n o w:=by
 unfold RawK
 simp only [execOp,ho,Sem.run_bind,mkA_eval n ρ ds x hx,hr,Result.andThen,pure,Sem.run]
 exact h
end
def shapeR (s:ByteArray):ByteArray :=
 if s.toList == (⟨#[113]⟩:ByteArray).toList then ⟨#[115]⟩ else if s.toList == (⟨#[99]⟩:ByteArray).toList then ⟨#[115]⟩ else
 if s.toList == (⟨#[109]⟩:ByteArray).toList then ⟨#[115,110]⟩ else if s.toList == (⟨#[101]⟩:ByteArray).toList then ⟨#[110,115,110]⟩ else
 if s.toList == (⟨#[98]⟩:ByteArray).toList then ⟨#[115,110,115,115]⟩ else ⟨#[]⟩
theorem shape_c (s:ByteArray) (w:World) (K:Value→World→Prop) (h:K (.string (shapeR s)) w):Ok prog 257 #[.string s] w K:=by
 refine F257.enter (args:=[.string s]) (by simp) ?_
 unfold c257 r257
 unfold shapeR at h
 simp only [ZB,insVc,sopK,sopV,ne_eq,reduceCtorEq,Zac,Za]
 refine condP_split ?_ ?_
 ·intro h1
  rw [if_pos h1] at h
  simp only [ZB,endK,resK,packed,insVc,Zad,h1]
  exact h
 intro h1
 rw [if_neg (by rw [h1];exact Bool.false_ne_true)] at h
 simp only [ZB,insVc,sopK,sopV,ne_eq,Nat.reduceEqDiff]
 refine condP_split ?_ ?_
 ·intro h1
  rw [if_pos h1] at h
  simp only [ZB,endK,resK,packed,insVc,Zad,h1]
  exact h
 intro h1
 rw [if_neg (by rw [h1];exact Bool.false_ne_true)] at h
 simp only [ZB,insVc,sopK,sopV,ne_eq,Nat.reduceEqDiff]
 refine condP_split ?_ ?_
 ·intro h1
  rw [if_pos h1] at h
  simp only [ZB,endK,resK,packed,insVc,Zad,h1]
  exact h
 intro h1
 rw [if_neg (by rw [h1];exact Bool.false_ne_true)] at h
 simp only [ZB,insVc,sopK,sopV,ne_eq,Nat.reduceEqDiff]
 refine condP_split ?_ ?_
 ·intro h1
  rw [if_pos h1] at h
  simp only [ZB,endK,resK,packed,insVc,Zad,h1]
  exact h
 intro h1
 rw [if_neg (by rw [h1];exact Bool.false_ne_true)] at h
 simp only [ZB,insVc,sopK,sopV,ne_eq,Nat.reduceEqDiff]
 refine condP_split ?_ ?_
 ·intro h1
  rw [if_pos h1] at h
  simp only [ZB,endK,resK,packed,insVc,Zad,h1]
  exact h
 intro h1
 rw [if_neg (by rw [h1];exact Bool.false_ne_true)] at h
 simp only [ZB,endK,resK,packed,insVc,Zad]
 exact h
def fitsL:List Pt→List UInt8→Bool
 | [],[]=>true
 | p :: l,c :: s=>(p.t == (c == 115)) && fitsL l s
 | _,_=>false
def fitsR (l:List Pt) (s:ByteArray):Bool:=decide (s.size≠0) && fitsL l s.data.toList
theorem fitsL_len:∀(l:List Pt) (s:List UInt8),fitsL l s=true→l.length=s.length:=by
 intro l
 induction l with
 | nil=>intro s h;cases s with|nil=>rfl|cons=>cases h
 | cons p l ih =>
  intro s h
  cases s with
  | nil=>cases h
  | cons c s=>simp only [fitsL,Zbk] at h;simp [ih s h.2]
theorem fits_c (l:List Pt) (s:ByteArray) (v:Value) (w:World) (K:Value→World→Prop) (hv:∃a c,v = .slice a l.length c) (hrow:l≠[]→RowAt w v 220 3 Pt.cells l) (hl:l.length<2^63) (hs:s.size<2^40)
  (ha:∀i (h:i<s.size),(s[i]'h).toNat<128)
  (h:∀w',Mod (fun _=>False) w w'→K (.bool (fitsR l s)) w') :
  Ok prog 256 #[v,.string s] w K:=by
 obtain ⟨a,c,rfl⟩:=hv
 refine F256.enter (args:=[_,.string s]) (by simp) ?_
 unfold c256 r256
 have hemp:(s.toList == (⟨#[]⟩:ByteArray).toList)=decide (s.size=0):=by
  have e:s.toList=s.data.toList:=ByteArray.toList_eq s
  have e2:(⟨#[]⟩:ByteArray).toList=[]:=ByteArray.toList_eq _
  rw [e,e2]
  by_cases hz:s.size=0
  ·have:s.data.toList=[]:=by apply List.eq_nil_of_length_eq_zero;rw [Array.length_toList];exact hz
   rw [this];simp [hz]
  ·have:s.data.toList≠[]:=by intro x;apply hz;show s.data.size=0;rw [← Array.length_toList,x];rfl
   rw [decide_eq_false hz,beq_eq_false_iff_ne]
   exact this
 simp only [ZB,insVc,iopK,iopV,lenSK,lenLK,ne_eq,Nat.reduceEqDiff,reduceCtorEq,Zac,Za,Zag]
 by_cases hn:((l.length:Int) != (s.size:Int))=true
 ·have hne:l.length≠s.size:=by intro e;rw [e] at hn;simp at hn
  have hf:fitsR l s=false:=by
   unfold fitsR
   cases hx:fitsL l s.data.toList with
   | false=>simp
   | true=>have:=fitsL_len _ _ hx;rw [Array.length_toList] at this;exact absurd this hne
  rw [hf] at h
  simp only [ZB,endK,resK,packed,insVc,pickK,ne_eq,Nat.reduceEqDiff,Zad,Zaa,hn]
  exact h w (Mod.refl _ _)
 ·have hn':((l.length:Int) != (s.size:Int))=false:=by simpa using hn
  have hlen:l.length=s.size:=by have:(l.length:Int)=s.size:=by simpa using hn'
                                omega
  simp only [ZB,insVc,pickK,sopK,sopV,ne_eq,Nat.reduceEqDiff,Zac,Za,Zag,Zaf,hn',hemp]
  refine condP_split ?_ ?_
  ·intro hz
   have hz':s.size=0:=by simpa using hz
   have hf:fitsR l s=false:=by unfold fitsR;simp [hz']
   rw [hf] at h
   simp only [ZB,endK,resK,packed,insVc,Zad]
   exact h w (Mod.refl _ _)
  intro hz
  have hz':s.size≠0:=by simpa using hz
  have hfr:fitsR l s=fitsL l s.data.toList:=by unfold fitsR;simp [hz']
  rw [hfr] at h
  obtain ⟨g,off,cap,cur,e,hg,hcur⟩:=hrow (by rintro rfl;simp at hlen;omega)
  simp only [Value.slice.injEq] at e
  obtain ⟨rfl,_,rfl⟩:=e
  simp only [ZB,insVc,ne_eq,Nat.reduceEqDiff,Zac,Za,Zag]
  refine rawK_range (s:=s) rfl rfl tStr (by simp only [upd_same,ev_tmp]) ?_
  simp only [ZB]
  refine vc_loop (fun m ρ ds w'=>ds=[]∧ρ 0 = .slice (some ⟨g,off,none⟩) l.length c∧ρ 17=ptr w.heap.size∧Mod (fun _=>False) w w' ∧
   ∃i:Nat,i+m=s.size∧w'.heap[w.heap.size]? = some (.stringIter s i)∧fitsL l s.data.toList=fitsL (l.drop i) (s.data.toList.drop i)) s.size ?_ ?_
  ·exact ⟨rfl,by simp only [upd_other,initE_at,ne_eq,not_false_eq_true,reduceCtorEq,Zac,Za],by simp only [upd_same],(Mod.refl _ _).alloc _,0,by simp,get_alloc_new _ _,rfl⟩
  ·rintro m ρ ds w1 ⟨rfl,h0,h17,hm1,i,him,hit,hfl⟩
   simp only [vc_seq,vc_ops,vcOps_cons,insVc]
   by_cases hi:i<s.size
   ·refine rawK_next rfl rfl (by simp only [ev_tmp,h17];exact Lib.run_next_ascii_at w1 w.heap.size s i _ hit hi (ha i hi)) ?_
    have hw2:w1.iterAt w.heap.size s (i+1)=Vc.set w1 w.heap.size (.stringIter s (i+1)):=rfl
    rw [hw2]
    have hm2:Mod (fun _=>False) w (Vc.set w1 w.heap.size (.stringIter s (i+1))):=hm1.set (.inl (Nat.le_refl _))
    obtain ⟨p,hp⟩:∃p,l[i]? = some p:=⟨_,List.getElem?_eq_getElem (by omega)⟩
    obtain ⟨hlt,hpe⟩:=List.getElem?_eq_some_iff.1 hp
    obtain ⟨hsz,hex⟩:=row_at (s:=3) (cells:=Pt.cells) (fun _=>rfl) hcur hp (by decide)
    have hcell:cur[off+i * 3]? = some (.bool p.t):=by
     have h0':(cur.extract (off+i * 3) (off+i * 3+3))[0]? = some (.bool p.t):=by rw [hex];rfl
     rw [Array.getElem?_extract] at h0'
     have h1':0<min (off+i * 3+3) cur.size-(off+i * 3)∧cur[off+i * 3]? = some (.bool p.t):=by simpa using h0'
     exact h1'.2
    have hgs:=hm2.keep hg id
    simp only [ZB,insVc,load1K,iopK,iopV,bopK,faddrK,iaddrK,extK,ne_eq,Nat.reduceEqDiff,reduceCtorEq,Za,Zag,Zah,Zaa,Zbj,h0,hgs,hcell]
    have hdrop:fitsL l s.data.toList=((p.t == (s[i] == 115)) && fitsL (l.drop (i+1)) (s.data.toList.drop (i+1))):=by
     rw [hfl,List.drop_eq_getElem_cons hlt,hpe,List.drop_eq_getElem_cons (show i<s.data.toList.length by rw [Array.length_toList];exact hi)]
     rfl
    have hcmp:(((s[i].toNat:Nat):Int) == 115)=(s[i] == 115):=by
     by_cases e:s[i]=115
     ·rw [e];rfl
     ·have:s[i].toNat≠115:=fun x=>e (UInt8.toNat_inj.1 x)
      have e1:(((s[i].toNat:Nat):Int) == 115)=false:=by rw [beq_eq_false_iff_ne];omega
      rw [e1];simpa using e
    refine ⟨⟨by omega,by omega⟩, ?_⟩
    rw [hcmp]
    refine condP_split ?_ ?_
    ·intro hx
     have hx':(p.t == (s[i] == 115))=false:=by
      cases hpt:p.t <;> cases hsc:(s[i] == 115) <;> rw [hpt,hsc] at hx <;> first|rfl|cases hx
     rw [hdrop,hx',Bool.false_and] at h
     simp only [ZB,endK,resK,packed,insVc,Zad]
     exact h _ hm2
    ·intro hx
     have hx':(p.t == (s[i] == 115))=true:=by
      cases hpt:p.t <;> cases hsc:(s[i] == 115) <;> rw [hpt,hsc] at hx <;> first|rfl|cases hx
     simp only [ZB,ne_eq,Nat.reduceEqDiff,reduceCtorEq,h0,h17]
     refine ⟨m-1,by omega,hm2,i+1,by omega,get_set_same _ _ _ (lt_of_get hit), ?_⟩
     rw [hdrop,hx',Bool.true_and]
   ·refine rawK_next rfl rfl (by simp only [ev_tmp,h17];exact Lib.run_next_end_at w1 w.heap.size s i _ hit hi) ?_
    simp only [ZB,endK,resK,packed,insVc,extK,Za,Zah,Zad]
    have hf1:fitsL l s.data.toList=true:=by
     rw [hfl,List.drop_of_length_le (by omega),List.drop_of_length_le (by rw [Array.length_toList];exact Nat.le_of_not_lt hi)]
     rfl
    rw [hf1] at h
    exact h w1 hm1
structure Th where
 sort:ByteArray
 queue:ByteArray
 id:Nat
 at_:Nat
 bx:ByteArray
 bkind:Nat
 bkey:ByteArray
 bq:ByteArray
 name:ByteArray
def Th.cells (t:Th):List Value:=[.string t.sort,.string t.queue,.int .u64 t.id,.int .u64 t.at_,.string t.bx,.int .i64 t.bkind,.string t.bkey,.string t.bq,.string t.name]
def Th.val (t:Th):Value:=.agg t.cells.toArray
def th0:Th:=⟨e0,e0,0,0,e0,0,e0,e0,e0⟩
def thOf (sort:ByteArray) (l:List Pt):Th × Int :=
 let s (i:Nat):ByteArray:=(l[i]?.map Pt.s).getD e0
 let n (i:Nat):Nat:=(l[i]?.map Pt.n).getD 0
 if sort.toList == (⟨#[113]⟩:ByteArray).toList then ({ th0 with sort:=sort,queue:=s 0 },0) else
 if sort.toList == (⟨#[99]⟩:ByteArray).toList then ({ th0 with sort:=sort,name:=s 0 },0) else
 if sort.toList == (⟨#[109]⟩:ByteArray).toList then ({ th0 with sort:=sort,queue:=s 0,id:=n 1 },0) else
 if sort.toList == (⟨#[101]⟩:ByteArray).toList then ({ th0 with sort:=sort,at_:=n 0,queue:=s 1,id:=n 2 },0) else
 if n 1 > 9223372036854775807 then (th0,20) else ({ th0 with sort:=sort,bx:=s 0,bkind:=n 1,bkey:=s 2,bq:=s 3 },0)
def parseL:List Pt→Th × Int
 | []=>(th0,20)
 | p :: l=>if p.t=false∨fitsR l (shapeR p.s)=false then (th0,20) else thOf p.s l
theorem parseL_cons (p:Pt) (l:List Pt):parseL (p :: l)=if p.t=false∨fitsR l (shapeR p.s)=false then (th0,20) else thOf p.s l:=rfl
def parseR (key:ByteArray):Th × Int:=if (partsR key).2≠0 then (th0,20) else parseL (partsR key).1
noncomputable def c38r:CC:=subC c205 [1,1,1]
theorem c38_s:c205 = .seq (subC c205 [0]) (.seq (subC c205 [1,0]) (.seq (subC c205 [1,1,0]) c38r)):=rfl
theorem shapeR_cases (s:ByteArray):shapeR s=⟨#[115]⟩∨shapeR s=⟨#[115,110]⟩∨shapeR s=⟨#[110,115,110]⟩∨shapeR s=⟨#[115,110,115,115]⟩∨shapeR s=⟨#[]⟩:=by
 unfold shapeR
 split
 ·exact .inl rfl
 split
 ·exact .inl rfl
 split
 ·exact .inr (.inl rfl)
 split
 ·exact .inr (.inr (.inl rfl))
 split
 ·exact .inr (.inr (.inr (.inl rfl)))
 ·exact .inr (.inr (.inr (.inr rfl)))
theorem shapeR_ascii (s:ByteArray):(shapeR s).size<2^40∧∀i (h:i<(shapeR s).size),((shapeR s)[i]'h).toNat<128:=by
 rcases shapeR_cases s with e|e|e|e|e <;> rw [e] <;> refine ⟨by decide, ?_⟩ <;> decide
theorem condP_gen {A B:Env→List Deferred→World→Prop} {ρ:Env} {ds:List Deferred} {w:World} {v:Value} (h:∀W,W=w→condP A B ρ ds W v):condP A B ρ ds w v:=h w rfl
theorem parse_tail (g cap rb:Nat) (cur:Array Value) (p:Pt) (t:List Pt) (ρ:Env) (w:World) (K:Value→World→Prop) (hg:w.heap[g]? = some (.cells cur 220 (0,0)))
  (hcur:cur.toList.take ((t.length+1)*3)=(p :: t).flatMap Pt.cells) (hcap:t.length+1≤cap) (hcap2:cap≤maxLen) (hr:w.heap[rb]? = some (.cells th0.cells.toArray 227 (0,0))) (hne:g≠rb)
  (hfit:fitsR t (shapeR p.s)=true) (h4:ρ 4 = .slice (some ⟨g,0,none⟩) (t.length+1) cap) (h2:ρ 2=ptr rb)
  (h:∀w',Mod (fun k=>k=rb) w w'→K (.tuple #[(thOf p.s t).1.val,.int .i64 (thOf p.s t).2]) w') :
  vc prog none 116 c38r (endQ prog [RV.cN 2 9,RV.tmp 3] K) ρ [] w:=by
 unfold c38r
 have hrow0:(cur.toList.drop 0).take ((p :: t).length * 3)=(p :: t).flatMap Pt.cells:=by simpa using hcur
 have cell:∀i q,(p :: t)[i]? = some q→cur[i * 3+1]? = some (.int .u64 q.n)∧cur[i * 3+2]? = some (.string q.s):=by
  intro i q hq
  obtain ⟨hsz,hex⟩:=row_at (s:=3) (cells:=Pt.cells) (fun _=>rfl) hrow0 hq (by decide)
  have a1:(cur.extract (0+i * 3) (0+i * 3+3))[1]? = some (.int .u64 q.n):=by rw [hex];rfl
  have a2:(cur.extract (0+i * 3) (0+i * 3+3))[2]? = some (.string q.s):=by rw [hex];rfl
  rw [Array.getElem?_extract] at a1 a2
  have b1:1<min (0+i * 3+3) cur.size-(0+i * 3)∧cur[i * 3+1]? = some (.int .u64 q.n):=by simpa using a1
  have b2:2<min (0+i * 3+3) cur.size-(0+i * 3)∧cur[i * 3+2]? = some (.string q.s):=by simpa using a2
  exact ⟨b1.2,b2.2⟩
 have c0:=(cell 0 p rfl).2
 have c0':cur[2]? = some (.string p.s):=c0
 simp only [ZB,subC,c205,insVc,load1K,storeNK,setMany,sopK,sopV,faddrK,iaddrK,buildK,fillL,boundOf,slLK,isPlain,Value.cells,ne_eq,Nat.reduceEqDiff,Nat.reduceAdd,Nat.reduceLeDiff,Zbn,Zbv,Za,Zah,Zai,Zak,Zaj,Zbe,Zbf,Zbd,Zbc,Zal,Zam,Zan,Zbh,Zaa,Int.reduceLE,Int.reduceToNat,Zbj,Nat.add_sub_cancel,Zbs,Nat.one_mul,Zau,Zav,Zax,Zbl,Zbb,Zay,h4,hg,c0']
 have hlen:t.length=(shapeR p.s).size:=by
  unfold fitsR at hfit
  simp only [Zbk] at hfit
  have:=fitsL_len _ _ hfit.2
  rw [Array.length_toList] at this
  exact this
 have hne0:(shapeR p.s).size≠0:=by
  unfold fitsR at hfit
  simp only [Zbk,decide_eq_true_eq] at hfit
  exact hfit.1
 refine ⟨by omega,⟨by omega,by omega⟩,condP_gen ?_⟩
 intro w1 hw1
 have hm1:Mod (fun _=>False) w w1:=by rw [hw1];exact ((Mod.refl _ _).alloc _).set (.inl (Nat.le_refl _))
 have ht1:w1.heap[w.heap.size]? = some (.cells ({ th0 with sort:=p.s }:Th).cells.toArray 227 (0,0)):=by rw [hw1];simp only [size_alloc,Zbb,Zay,size_alloc];rfl
 clear hw1
 have hg1:=hm1.keep hg id
 have hr1:=hm1.keep hr id
 have hrl:=lt_of_get hr
 have hgl:=lt_of_get hg
 have hcne:¬cap=1:=by omega
 have hth:({ th0 with sort:=p.s }:Th).cells.toArray = #[.string p.s,.string ⟨#[]⟩,.int .u64 0,.int .u64 0,.string ⟨#[]⟩,.int .i64 0,.string ⟨#[]⟩,.string ⟨#[]⟩,.string ⟨#[]⟩]:=rfl
 have hth0:th0.cells.toArray = #[.string ⟨#[]⟩,.string ⟨#[]⟩,.int .u64 0,.int .u64 0,.string ⟨#[]⟩,.int .i64 0,.string ⟨#[]⟩,.string ⟨#[]⟩,.string ⟨#[]⟩]:=rfl
 rw [hth] at ht1
 rw [hth0] at hr1
 refine condP_split ?_ ?_
 ·intro hs
  obtain ⟨q0',ht⟩:∃q,t=[q]:=by
   have:(shapeR p.s).size=1:=by unfold shapeR;rw [if_pos hs];rfl
   match t,hlen with
   | [q],_=>exact ⟨q,rfl⟩
   | [],hl=>rw [this] at hl;simp at hl
   | _ :: _ :: _,hl=>rw [this] at hl;simp at hl
  subst ht
  have c1:cur[5]? = some (.string q0'.s):=(cell 1 q0' rfl).2
  simp only [ZB,endK,resK,resN,packed,insVc,load1K,loadNK,storeK,storeNK,setMany,faddrK,iaddrK,isPlain,ne_eq,Nat.reduceEqDiff,Nat.reduceAdd,Nat.reduceLT,Nat.reduceLeDiff,Zai,Zak,Zaj,Zal,Zam,Zan,Zad,Zaw,Zaf,Int.reduceLE,Int.reduceToNat,Zar,Zap,Zaq,Zao,Zas,Zat,Zbs,Zau,Zav,Zax,Zbb,Addr.add_lit,hcne,hg1,c1,ht1,hr1,get_set,Nat.ne_of_lt hrl,lt_of_get ht1,lt_of_get hr1,h2]
  refine ⟨by decide, ?_⟩
  have hT:thOf p.s [q0']=({ th0 with sort:=p.s,queue:=q0'.s },0):=by unfold thOf;simp only [];rw [if_pos hs];rfl
  rw [hT] at h
  exact h _ (((hm1.mono (fun _ _ x=>x.elim)).set (.inl (Nat.le_refl _))).set (.inr rfl))
 intro hs
 simp only [ZB,insVc,sopK,sopV,ne_eq,Nat.reduceEqDiff]
 refine condP_split ?_ ?_
 ·intro hs2
  obtain ⟨q0',ht⟩:∃q,t=[q]:=by
   have:(shapeR p.s).size=1:=by unfold shapeR;rw [if_neg (by rw [hs];exact Bool.false_ne_true),if_pos hs2];rfl
   match t,hlen with
   | [q],_=>exact ⟨q,rfl⟩
   | [],hl=>rw [this] at hl;simp at hl
   | _ :: _ :: _,hl=>rw [this] at hl;simp at hl
  subst ht
  have c1:cur[5]? = some (.string q0'.s):=(cell 1 q0' rfl).2
  simp only [ZB,endK,resK,resN,packed,insVc,load1K,loadNK,storeK,storeNK,setMany,faddrK,iaddrK,isPlain,ne_eq,Nat.reduceEqDiff,Nat.reduceAdd,Nat.reduceLT,Nat.reduceLeDiff,Zai,Zak,Zaj,Zal,Zam,Zan,Zad,Zaw,Zaf,Int.reduceLE,Int.reduceToNat,Zar,Zap,Zaq,Zao,Zas,Zat,Zbs,Zau,Zav,Zax,Zbb,Zay,Addr.add_lit,hcne,hg1,c1,ht1,hr1,get_set,Nat.ne_of_lt hrl,lt_of_get ht1,lt_of_get hr1,h2]
  refine ⟨by decide, ?_⟩
  have hT:thOf p.s [q0']=({ th0 with sort:=p.s,name:=q0'.s },0):=by unfold thOf;simp only [];rw [if_neg (by rw [hs];exact Bool.false_ne_true),if_pos hs2];rfl
  rw [hT] at h
  exact h _ (((hm1.mono (fun _ _ x=>x.elim)).set (.inl (Nat.le_refl _))).set (.inr rfl))
 intro hs2
 simp only [ZB,insVc,sopK,sopV,ne_eq,Nat.reduceEqDiff]
 refine condP_split ?_ ?_
 ·intro hs3
  obtain ⟨q0',q1',ht⟩:∃q q',t=[q,q']:=by
   have:(shapeR p.s).size=2:=by unfold shapeR;rw [if_neg (by rw [hs];exact Bool.false_ne_true),if_neg (by rw [hs2];exact Bool.false_ne_true),if_pos hs3];rfl
   match t,hlen with
   | [q,q'],_=>exact ⟨q,q',rfl⟩
   | [],hl=>rw [this] at hl;simp at hl
   | [_],hl=>rw [this] at hl;simp at hl
   | _ :: _ :: _ :: _,hl=>rw [this] at hl;simp at hl
  subst ht
  have c1:cur[5]? = some (.string q0'.s):=(cell 1 q0' rfl).2
  have c2:cur[7]? = some (.int .u64 q1'.n):=(cell 2 q1' rfl).1
  simp only [Nat.reduceAdd,Zak,Zaj,Nat.zero_add]
  refine draw_d (fun W=>W.heap[g]? = some (.cells cur 220 (0,0))) (by kernel_rfl) (by kernel_rfl) (by kernel_rfl) (by kernel_rfl) hg1 ?_
  simp only [ZB,insVc,loadNK,storeK,faddrK,iaddrK,ne_eq,Nat.reduceEqDiff,Nat.reduceAdd,Zaa,Zaf,Int.reduceLE,Int.reduceToNat,pureI,Zbs,Nat.one_mul,vcD_nil,vcD_cons,stepD_pure,stepD_load,stepD_step,kindI,loadI,Addr.add_lit,hcne]
  refine ⟨by decide, ?_⟩
  refine loadD1 (b:=g) (o:=5) (v:=.string q0'.s) rfl (fun W hW=>⟨_,_,_,hW,c1⟩) ?_
  refine ⟨by decide, ?_⟩
  refine loadD1 (b:=g) (o:=7) (v:=.int .u64 q1'.n) rfl (fun W hW=>⟨_,_,_,hW,c2⟩) ?_
  simp only [ZB,endK,resK,resN,packed,insVc,storeNK,setMany,isPlain,ne_eq,Nat.reduceEqDiff,Nat.reduceAdd,Nat.reduceLT,Nat.reduceLeDiff,Zai,Zak,Zaj,Zal,Zam,Zan,Zad,Zaw,Zaa,Zaf,Zar,Zap,Zaq,Zao,Zas,Zat,Zau,Zav,Zax,Zbb,hg1,ht1,hr1,get_set,Nat.ne_of_lt hgl,Nat.ne_of_lt hrl,lt_of_get ht1,lt_of_get hr1,h2]
  have hT:thOf p.s [q0',q1']=({ th0 with sort:=p.s,queue:=q0'.s,id:=q1'.n },0):=by unfold thOf;simp only [];rw [if_neg (by rw [hs];exact Bool.false_ne_true),if_neg (by rw [hs2];exact Bool.false_ne_true),if_pos hs3];rfl
  rw [hT] at h
  exact h _ (((((hm1.mono (fun _ _ x=>x.elim)).drew).set (.inl (Nat.le_refl _))).set (.inl (Nat.le_refl _))).set (.inr rfl))
 intro hs3
 simp only [ZB,insVc,sopK,sopV,ne_eq,Nat.reduceEqDiff]
 refine condP_split ?_ ?_
 ·intro hs4
  obtain ⟨qa,qb,qc,ht⟩:∃qa qb qc,t=[qa,qb,qc]:=by
   have:(shapeR p.s).size=3:=by unfold shapeR;rw [if_neg (by rw [hs];exact Bool.false_ne_true),if_neg (by rw [hs2];exact Bool.false_ne_true),if_neg (by rw [hs3];exact Bool.false_ne_true),if_pos hs4];rfl
   match t,hlen with
   | [qa,qb,qc],_=>exact ⟨qa,qb,qc,rfl⟩
   | [],hl=>rw [this] at hl;simp at hl
   | [_],hl=>rw [this] at hl;simp at hl
   | [_,_],hl=>rw [this] at hl;simp at hl
   | _ :: _ :: _ :: _ :: _,hl=>rw [this] at hl;simp at hl
  subst ht
  have c1:cur[4]? = some (.int .u64 qa.n):=(cell 1 qa rfl).1
  have c2:cur[8]? = some (.string qb.s):=(cell 2 qb rfl).2
  have c3:cur[10]? = some (.int .u64 qc.n):=(cell 3 qc rfl).1
  simp only [Nat.reduceAdd,Zak,Zaj,Nat.zero_add]
  refine draw_d (fun W=>W.heap[g]? = some (.cells cur 220 (0,0))) (by kernel_rfl) (by kernel_rfl) (by kernel_rfl) (by kernel_rfl) hg1 ?_
  simp only [ZB,insVc,loadNK,storeK,faddrK,iaddrK,ne_eq,Nat.reduceEqDiff,Nat.reduceAdd,Zaa,Zaf,Int.reduceLE,Int.reduceToNat,pureI,Zbs,Nat.one_mul,Nat.reduceMul,vcD_nil,vcD_cons,stepD_pure,stepD_load,stepD_step,kindI,loadI,Addr.add_lit,hcne]
  refine ⟨by decide, ?_⟩
  refine loadD1 (b:=g) (o:=4) (v:=.int .u64 qa.n) rfl (fun W hW=>⟨_,_,_,hW,c1⟩) ?_
  refine ⟨by decide, ?_⟩
  refine loadD1 (b:=g) (o:=8) (v:=.string qb.s) rfl (fun W hW=>⟨_,_,_,hW,c2⟩) ?_
  refine ⟨by decide, ?_⟩
  refine loadD1 (b:=g) (o:=10) (v:=.int .u64 qc.n) rfl (fun W hW=>⟨_,_,_,hW,c3⟩) ?_
  simp only [ZB,endK,resK,resN,packed,insVc,storeNK,setMany,isPlain,ne_eq,Nat.reduceEqDiff,Nat.reduceAdd,Nat.reduceLT,Nat.reduceLeDiff,Zai,Zak,Zaj,Zal,Zam,Zan,Zad,Zaw,Zaa,Zaf,Zar,Zap,Zaq,Zao,Zas,Zat,Zau,Zav,Zax,Zbb,hg1,ht1,hr1,get_set,Nat.ne_of_lt hgl,Nat.ne_of_lt hrl,lt_of_get ht1,lt_of_get hr1,h2]
  have hT:thOf p.s [qa,qb,qc]=({ th0 with sort:=p.s,at_:=qa.n,queue:=qb.s,id:=qc.n },0):=by unfold thOf;simp only [];rw [if_neg (by rw [hs];exact Bool.false_ne_true),if_neg (by rw [hs2];exact Bool.false_ne_true),if_neg (by rw [hs3];exact Bool.false_ne_true),if_pos hs4];rfl
  rw [hT] at h
  exact h _ ((((((hm1.mono (fun _ _ x=>x.elim)).drew).set (.inl (Nat.le_refl _))).set (.inl (Nat.le_refl _))).set (.inl (Nat.le_refl _))).set (.inr rfl))
 intro hs4
 obtain ⟨qa,qb,qc,qd,ht⟩:∃qa qb qc qd,t=[qa,qb,qc,qd]:=by
  have hb:(shapeR p.s).size=4:=by
   have hx:shapeR p.s=⟨#[115,110,115,115]⟩∨shapeR p.s=⟨#[]⟩:=by
    unfold shapeR
    rw [if_neg (by rw [hs];exact Bool.false_ne_true),if_neg (by rw [hs2];exact Bool.false_ne_true),if_neg (by rw [hs3];exact Bool.false_ne_true),if_neg (by rw [hs4];exact Bool.false_ne_true)]
    split
    ·exact .inl rfl
    ·exact .inr rfl
   rcases hx with e|e
   ·rw [e];rfl
   ·rw [e] at hne0;exact (hne0 rfl).elim
  match t,hlen with
  | [qa,qb,qc,qd],_=>exact ⟨qa,qb,qc,qd,rfl⟩
  | [],hl=>rw [hb] at hl;simp at hl
  | [_],hl=>rw [hb] at hl;simp at hl
  | [_,_],hl=>rw [hb] at hl;simp at hl
  | [_,_,_],hl=>rw [hb] at hl;simp at hl
  | _ :: _ :: _ :: _ :: _ :: _,hl=>rw [hb] at hl;simp at hl
 subst ht
 have c1:cur[5]? = some (.string qa.s):=(cell 1 qa rfl).2
 have c2:cur[7]? = some (.int .u64 qb.n):=(cell 2 qb rfl).1
 have c3:cur[11]? = some (.string qc.s):=(cell 3 qc rfl).2
 have c4:cur[14]? = some (.string qd.s):=(cell 4 qd rfl).2
 have hT:thOf p.s [qa,qb,qc,qd]=if qb.n > 9223372036854775807 then (th0,20) else ({ th0 with sort:=p.s,bx:=qa.s,bkind:=qb.n,bkey:=qc.s,bq:=qd.s },0):=by unfold thOf;simp only [];rw [if_neg (by rw [hs];exact Bool.false_ne_true),if_neg (by rw [hs2];exact Bool.false_ne_true),if_neg (by rw [hs3];exact Bool.false_ne_true),if_neg (by rw [hs4];exact Bool.false_ne_true)];rfl
 rw [hT] at h
 simp only [ZB,insVc,load1K,iopK,iopV,faddrK,iaddrK,ne_eq,Nat.reduceEqDiff,Nat.reduceAdd,reduceCtorEq,Zak,Zaj,Zaf,Int.reduceLE,Int.reduceToNat,Nat.one_mul,Addr.add_lit,hcne,hg1,c2]
 refine ⟨by decide, ?_⟩
 refine condP_split ?_ ?_
 ·intro hbig
  have hbig':qb.n > 9223372036854775807:=by have:=of_decide_eq_true hbig;omega
  rw [if_pos hbig'] at h
  simp only [ZB,endK,resK,resN,packed,insVc,storeNK,setMany,buildK,fillL,isPlain,ne_eq,Nat.reduceEqDiff,Nat.reduceAdd,Nat.reduceLeDiff,Zai,Zak,Zaj,Zal,Zam,Zan,Zad,Zaw,Zar,Zap,Zaq,Zao,Zas,Zat,Zau,Zav,Zax,h2,hr1,get_set_same _ _ _ (lt_of_get hr1)]
  exact h _ ((hm1.mono (fun _ _ x=>x.elim)).set (.inr rfl))
 intro hbig
 have hbig':¬qb.n > 9223372036854775807:=by have:=of_decide_eq_false hbig;omega
 rw [if_neg hbig'] at h
 have hconv:IntKind.i64.wrap (qb.n:Int)=(qb.n:Int):=wrap_i64 _ (by omega)
 simp only [vc_skip,thenQ_normal]
 refine draw_d (fun W=>W.heap[g]? = some (.cells cur 220 (0,0))) (by kernel_rfl) (by kernel_rfl) (by kernel_rfl) (by kernel_rfl) hg1 ?_
 simp only [ZB,insVc,loadNK,storeNK,convK,faddrK,iaddrK,buildK,fillL,Value.cells,ne_eq,Nat.reduceEqDiff,Nat.reduceAdd,Nat.reduceLeDiff,Zai,Zak,Zaj,Zbe,Zbf,Zbd,Zbc,Zaa,Zaf,Int.reduceLE,Int.reduceToNat,pureI,Zbs,Nat.one_mul,Nat.reduceMul,vcD_nil,vcD_cons,stepD_pure,stepD_load,stepD_step,kindI,loadI]
 refine ⟨by decide, ?_⟩
 refine loadD1 (b:=g) (o:=5) (v:=.string qa.s) rfl (fun W hW=>⟨_,_,_,hW,c1⟩) ?_
 refine ⟨by decide, ?_⟩
 refine loadD1 (b:=g) (o:=7) (v:=.int .u64 qb.n) rfl (fun W hW=>⟨_,_,_,hW,c2⟩) ?_
 refine ⟨by decide, ?_⟩
 refine loadD1 (b:=g) (o:=11) (v:=.string qc.s) rfl (fun W hW=>⟨_,_,_,hW,c3⟩) ?_
 refine ⟨by decide, ?_⟩
 refine loadD1 (b:=g) (o:=14) (v:=.string qd.s) rfl (fun W hW=>⟨_,_,_,hW,c4⟩) ?_
 simp only [ZB,endK,resK,resN,packed,insVc,storeNK,setMany,isPlain,ne_eq,Nat.reduceEqDiff,Nat.reduceAdd,Nat.reduceLeDiff,Zai,Zak,Zaj,Zbe,Zbf,Zbd,Zbc,Zal,Zam,Zan,Zad,Zaw,Zaa,Zaf,Zar,Zap,Zaq,Zao,Zas,Zat,Zau,Zav,Zax,Zbb,hg1,ht1,hr1,get_set,Nat.ne_of_lt hgl,Nat.ne_of_lt hrl,lt_of_get ht1,lt_of_get hr1,h2,hconv]
 exact h _ ((((hm1.mono (fun _ _ x=>x.elim)).drew).set (.inl (Nat.le_refl _))).set (.inr rfl))
theorem parse_c (key:ByteArray) (w:World) (K:Value→World→Prop)
  (h:∀w',Mod (fun _=>False) w w'→K (.tuple #[(parseR key).1.val,.int .i64 (parseR key).2]) w') :
  Ok prog 205 #[.string key] w K:=by
 refine F205.enter (args:=[.string key]) (by simp) ?_
 rw [c38_s]
 unfold r205
 simp only [ZB,subC,c205,insVc,Value.cells,ne_eq,reduceCtorEq,Zac,Zae,Zab,Za]
 refine callK_gen ?_
 intro w0 hw0
 have hm0:Mod (fun _=>False) w w0:=by rw [hw0];exact (Mod.refl _ _).alloc _
 have hr0:w0.heap[w.heap.size]? = some (.cells th0.cells.toArray 227 (0,0)):=by rw [hw0];exact get_alloc_new _ _
 clear hw0
 refine parts_c key w0 _ ?_
 intro w1 v hm1 hown
 have hr1:=hm1.keep hr0 id
 have hm01:=hm0.trans hm1
 simp only [ZB,insVc,extK,ne_eq,Nat.reduceEqDiff,Za,Zag,Zah]
 have hbad:parseR key=(th0,20)→∀w2,Mod (fun _=>False) w w2→K (.tuple #[th0.val,.int .i64 20]) w2:=by
  intro hp w2 hm2
  rw [hp] at h
  exact h w2 hm2
 have hdead:∀(w2:World),Mod (fun _=>False) w w2→w2.heap[w.heap.size]? = some (.cells th0.cells.toArray 227 (0,0))→parseR key=(th0,20)→K (.tuple #[th0.val,.int .i64 20]) (Vc.set w2 w.heap.size (.cells th0.cells.toArray 227 (0,0))):=fun w2 hm2 _ hp=>hbad hp _ (hm2.set (.inl (Nat.le_refl _)))
 have hth:th0.cells.toArray = #[.string ⟨#[]⟩,.string ⟨#[]⟩,.int .u64 0,.int .u64 0,.string ⟨#[]⟩,.int .i64 0,.string ⟨#[]⟩,.string ⟨#[]⟩,.string ⟨#[]⟩]:=rfl
 have hpr:∀l e,partsR key=(l,e)→parseR key=if e≠0 then (th0,20) else parseL l:=by
  intro l e hx;unfold parseR;rw [hx]
 revert hown hpr
 generalize partsR key=x
 obtain ⟨l,e⟩:=x
 intro hown hpr
 have hpr:=hpr l e rfl
 simp only [] at hown
 by_cases he:e=0
 ·subst he
  rw [if_neg (by simp)] at hpr
  cases l with
  | nil =>
   obtain ⟨a,c,rfl⟩:∃a c,v = .slice a 0 c:=by
    rcases hown.2 with ⟨rfl,_⟩|⟨g,cap,cur,rfl,_⟩ <;> exact ⟨_,_,rfl⟩
   refine draw_d (fun _=>True) (by kernel_rfl) (by kernel_rfl) (by kernel_rfl) (by kernel_rfl) trivial ?_
   have hr1':w1.drew.heap[w.heap.size]? = _:=hr1
   rw [hth] at hr1' hdead
   have hz00:(((0:Nat):Int) == 0)=true:=rfl
   simp only [ZB,endK,resK,resN,packed,insVc,pickK,storeNK,setMany,iopK,iopV,lenLK,buildK,fillL,isPlain,ne_eq,Nat.reduceEqDiff,Nat.reduceAdd,Nat.reduceLeDiff,reduceCtorEq,Zai,Zak,Zaj,Zal,Zam,Zan,Zad,Zaw,Zaa,Zaf,Int.reduceBNe,Zar,Zap,Zaq,Zao,Zas,Zat,pureI,Zau,Zav,Zax,vcD_nil,vcD_cons,vcD_gate,gateD_true,gateD_false,stepD_pure,kindI,loadI,hz00,hr1',get_set_same _ _ _ (lt_of_get hr1')]
   exact hdead w1.drew hm01.drew hr1' hpr
  | cons p t =>
   obtain ⟨g,cap,cur,rfl,hgB,hg1,hlc,hcap2,hcs,hcur⟩:∃g cap cur,v = .slice (some ⟨g,0,none⟩) (p :: t).length cap∧w0.heap.size≤g∧w1.heap[g]? = some (.cells cur 220 (0,0))∧(p :: t).length≤cap∧cap≤maxLen∧cur.size=cap * 3∧cur.toList.take ((p :: t).length * 3)=(p :: t).flatMap Pt.cells:=by
    rcases hown.2 with ⟨_,h0⟩|⟨g,cap,cur,e,r⟩
    ·simp at h0
    ·exact ⟨g,cap,cur,e,r⟩
   have hrow0:(cur.toList.drop 0).take ((p :: t).length * 3)=(p :: t).flatMap Pt.cells:=by simpa using hcur
   obtain ⟨hsz,hex⟩:=row_at (s:=3) (cells:=Pt.cells) (fun _=>rfl) hrow0 (j:=0) (p:=p) rfl (by decide)
   have hc0:cur[0]? = some (.bool p.t):=by
    have h0':(cur.extract (0+0*3) (0+0*3+3))[0]? = some (.bool p.t):=by rw [hex];rfl
    rw [Array.getElem?_extract] at h0'
    have h1':0<min (0+0*3+3) cur.size-(0+0*3)∧cur[0]? = some (.bool p.t):=by simpa using h0'
    exact h1'.2
   have hc2:cur[2]? = some (.string p.s):=by
    have h0':(cur.extract (0+0*3) (0+0*3+3))[2]? = some (.string p.s):=by rw [hex];rfl
    rw [Array.getElem?_extract] at h0'
    have h1':2<min (0+0*3+3) cur.size-(0+0*3)∧cur[2]? = some (.string p.s):=by simpa using h0'
    exact h1'.2
   refine draw_d (fun W=>W.heap[g]? = some (.cells cur 220 (0,0))) (by kernel_rfl) (by kernel_rfl) (by kernel_rfl) (by kernel_rfl) hg1 ?_
   have hr1':w1.drew.heap[w.heap.size]? = _:=hr1
   rw [hth] at hr1' hdead
   have hlz:(((p :: t).length:Nat):Int)=(t.length:Int)+1:=by simp
   have hl0:((((p :: t).length:Nat):Int) == 0)=false:=by rw [beq_eq_false_iff_ne];omega
   have hl1:(0:Int)≤0∧(0:Int)<((p :: t).length:Nat):=by omega
   generalize hL:(p :: t).length=L at *
   simp only [ZB,insVc,pickK,iopK,iopV,notK,faddrK,iaddrK,lenLK,ne_eq,Nat.reduceEqDiff,reduceCtorEq,Zaa,Zaf,Int.reduceToNat,Int.reduceBNe,pureI,Zbs,vcD_nil,vcD_cons,vcD_gate,gateD_true,stepD_pure,stepD_load,kindI,loadI,hl0,hl1]
   refine loadD1 (b:=g) (o:=0) (v:=.bool p.t) rfl (fun W hW=>⟨_,_,_,hW,hc0⟩) ?_
   cases hpt:p.t with
   | false =>
    have hpr2:parseR key=(th0,20):=by rw [hpr,parseL_cons,if_pos (.inl hpt)]
    simp only [ZB,endK,resK,resN,packed,insVc,storeNK,setMany,buildK,fillL,isPlain,ne_eq,Nat.reduceEqDiff,Nat.reduceAdd,Nat.reduceLeDiff,Zai,Zak,Zaj,Zal,Zam,Zan,Zad,Zaw,Zaa,Zar,Zap,Zaq,Zao,Zas,Zat,Zau,Zav,Zax,gateD_false,hr1',get_set_same _ _ _ (lt_of_get hr1')]
    exact hdead w1.drew hm01.drew hr1' hpr2
   | true =>
    have hLt:L-1=t.length:=by rw [← hL];rfl
    have hrowT:∀W,W.heap[g]? = some (.cells cur 220 (0,0))→t≠[]→RowAt W (.slice (if cap=1 then some ⟨g,0,none⟩ else some (Addr.add ⟨g,0,none⟩ 3)) t.length (cap-1)) 220 3 Pt.cells t:=by
     intro W hW hne
     have htl:t.length≠0:=fun x=>hne (List.eq_nil_of_length_eq_zero x)
     rw [if_neg (by omega)]
     refine ⟨g,3,cap-1,cur,rfl,hW, ?_⟩
     have e1:L * 3=3+t.length * 3:=by rw [← hL];simp;omega
     rw [e1] at hcur
     have e2:=congrArg (List.drop 3) hcur
     rw [List.drop_take] at e2
     have e3:3+t.length * 3-3=t.length * 3:=by omega
     rw [e3] at e2
     rw [e2]
     simp [Pt.cells]
    have hsh:=shapeR_ascii p.s
    simp only [ZB,insVc,notK,faddrK,iaddrK,boundOf,slLK,ne_eq,Nat.reduceEqDiff,Zbn,Zbv,Zae,Zab,Zaa,Zaf,Int.reduceLE,Int.reduceToNat,Zbj,pureI,Zbs,Nat.one_mul,gateD_true,stepD_pure,stepD_load,stepD_step,kindI,loadI,hl1,hLt]
    refine ⟨⟨by omega,by omega⟩, ?_⟩
    refine loadD1 (b:=g) (o:=2) (v:=.string p.s) rfl (fun W hW=>⟨_,_,_,hW,hc2⟩) ?_
    refine shape_c p.s w1.drew _ ?_
    refine ⟨hg1, ?_⟩
    refine fits_c t (shapeR p.s) _ w1.drew _ ⟨_,_,rfl⟩ (hrowT w1.drew hg1) (by simp only [maxLen] at hcap2;omega) hsh.1 hsh.2 ?_
    intro w2 hm2
    have hg2:=hm2.keep (show w1.drew.heap[g]? = _ from hg1) id
    have hr2:=hm2.keep hr1' id
    have hm02:=hm01.drew.trans hm2
    refine ⟨hg2, ?_⟩
    simp only []
    refine condP_split ?_ ?_
    ·intro hx
     have hx':fitsR t (shapeR p.s)=false:=by simpa using hx
     have hpr2:parseR key=(th0,20):=by rw [hpr,parseL_cons,if_pos (.inr hx')]
     simp only [ZB,endK,resK,resN,packed,insVc,storeNK,setMany,buildK,fillL,isPlain,ne_eq,Nat.reduceEqDiff,Nat.reduceAdd,Nat.reduceLeDiff,Zai,Zak,Zaj,Zal,Zam,Zan,Zad,Zaw,Zar,Zap,Zaq,Zao,Zas,Zat,Zau,Zav,Zax,hr2,get_set_same _ _ _ (lt_of_get hr2)]
     exact hdead w2 hm02 hr2 hpr2
    ·intro hx
     have hx':fitsR t (shapeR p.s)=true:=by simpa using hx
     have hpr2:parseR key=thOf p.s t:=by rw [hpr,parseL_cons,if_neg (by rw [hpt,hx'];simp)]
     rw [hpr2] at h
     simp only [vc_skip,thenQ_normal]
     have hL1:L-1+1=L:=by have:L=t.length+1:=by rw [← hL];rfl
                          omega
     refine parse_tail g cap w.heap.size cur p t _ w2 K hg2 ?_ (by omega) hcap2 ?_ ?_ hx' (by simp only [upd_same,upd_other,ne_eq,not_false_eq_true,Nat.reduceEqDiff,← hLt,hL1]) (by simp only [upd_same,upd_other,ne_eq,not_false_eq_true,Nat.reduceEqDiff]) ?_
     ·rw [← hcur,← hLt,hL1]
     ·rw [hth];exact hr2
     ·have:=lt_of_get hr0;omega
     ·intro w3 hm3
      exact h w3 (hm02.then hm3 (fun i hi hk=>by omega))
 ·rw [if_pos he] at hpr
  have he':(e != 0)=true:=by simpa using he
  refine draw_d (fun _=>True) (by kernel_rfl) (by kernel_rfl) (by kernel_rfl) (by kernel_rfl) trivial ?_
  have hr1':w1.drew.heap[w.heap.size]? = _:=hr1
  rw [hth] at hr1' hdead
  simp only [ZB,endK,resK,resN,packed,insVc,pickK,storeNK,setMany,iopK,iopV,buildK,fillL,isPlain,ne_eq,Nat.reduceEqDiff,Nat.reduceAdd,Nat.reduceLeDiff,reduceCtorEq,Zai,Zak,Zaj,Zal,Zam,Zan,Zad,Zaw,Zaa,Zaf,Zar,Zap,Zaq,Zao,Zas,Zat,pureI,Zau,Zav,Zax,vcD_nil,vcD_cons,vcD_gate,gateD_false,stepD_pure,kindI,loadI,he',hr1',get_set_same _ _ _ (lt_of_get hr1')]
  exact hdead w1.drew hm01.drew hr1' hpr
def PureRng {σ:Type} (St:Sto σ) (s:σ):Prop:=∀a b w (G:Value→World→Prop),St.At s w →
 (∀w' gf cap,Mod (fun _=>False) w w'→IterP prog gf cap (rowsV (St.rng s a b).1) (fun u=>St.At s u∧Kept w.heap.size w' u)→G (.func (.func gf) #[] cap.toArray) w')→InvK prog G St.t St.v "Range" [.string a,.string b] w
theorem pure_shelf (sb mb:Nat) (h0:3≠mb) (s:Nat × M) (hs:s.2.length * 16≤140737488355328):PureRng (shelf sb mb h0) s :=
 fun a b w G h hG=>⟨352,ptr sb,by kernel_rfl,rng_c sb mb s.1 s.2 a b w G h hs hG⟩
noncomputable def c32r:CC:=subC c168 [1,1]
theorem c32_s:c168 = .seq (subC c168 [0]) (.seq (subC c168 [1,0]) c32r):=rfl
theorem route0_c {σ:Type} (St:Sto σ) (s:σ) (key:ByteArray) (m:Int) (w:World) (K:Value→World→Prop) (hAt:St.At s w) (hg:Gl m w) (hs:key.size<4294967281)
  (hv:(St.get s (queueK key).1).1.1.size<2^60)
  (h1:(St.find s key).1.2≠0→∀w',Mod St.own w w'→St.At (St.find s key).2 w'→K (.tuple #[.slice none 0 0,.int .i64 (St.find s key).1.2]) w')
  (h2:(St.find s key).1.2=0→∀w' g,Mod St.own w w'→St.At (St.find s key).2 w'→w'.heap[g]? = some (.cells #[.string key] 9 (0,0))→K (.tuple #[.slice (some ⟨g,0,none⟩) 1 1,.int .i64 0]) w') :
  Ok prog 168 #[.iface St.t St.v,.string ⟨#[]⟩,.string key] w K:=by
 refine F168.enter (args:=[.iface St.t St.v,.string ⟨#[]⟩,.string key]) (by simp) ?_
 rw [c32_s]
 unfold r168
 have hee:((⟨#[]⟩:ByteArray).toList == (⟨#[]⟩:ByteArray).toList)=true:=by simp
 simp only [ZB,subC,c168,insVc,load1K,sopK,sopV,Value.cells,ne_eq,Nat.reduceEqDiff,Nat.reduceAdd,reduceCtorEq,Zac,Zae,Zab,Za,Zag,Zah,Zaa,Zaf,get_alloc,Zb,Nat.reduceAdd,Zbi,Nat.reduceEqDiff,Zaz,hee]
 refine callK_gen ?_
 intro w1 hw1
 have hm1:Mod (fun _=>False) w w1:=by rw [hw1];exact (((Mod.refl _ _).alloc _).alloc _).alloc _
 have k1:w1.heap[w.heap.size]? = some (.cells #[.string key] 9 (0,0)):=by rw [hw1];simp only [Nat.reduceAdd,reduceCtorEq,Zaa,Zaf,size_alloc,get_alloc,size_alloc,Zb,Nat.reduceAdd,Zbi,Zaz]
 have a1:w1.heap[w.heap.size+1]? = some (.cells #[.slice none 0 0] 107 (0,0)):=by rw [hw1];simp only [Nat.reduceEqDiff,Nat.reduceAdd,Zaa,Zaf,size_alloc,get_alloc,size_alloc,Zb,Nat.reduceAdd,Zbg,Zba,Nat.reduceEqDiff,Zaz]
 have b1:w1.heap[w.heap.size+2]? = some (.cells #[.int .i64 0] 48 (0,0)):=by rw [hw1];simp only [Nat.reduceEqDiff,Nat.reduceAdd,reduceCtorEq,Zaa,Zaf,size_alloc,get_alloc,size_alloc,Zb,Nat.reduceAdd,Zbg,Zba,Nat.reduceEqDiff]
 clear hw1
 refine find_c St s key m w1 _ (St.keep0 hAt hm1) (hg.mod hm1 id) hs hv ?_
 intro w2 hm2 hA2
 have hno:∀k,w.heap.size≤k→¬St.own k:=fun k hk x=>by have:=St.footLt s w _ hAt (St.ownFoot _ x);omega
 have k2:=hm2.keep k1 (hno _ (by omega))
 have a2:=hm2.keep a1 (hno _ (by omega))
 have b2:=hm2.keep b1 (hno _ (by omega))
 have hm12:Mod St.own w w2:=(hm1.mono (fun _ _ x=>x.elim)).trans hm2
 have l1:=lt_of_get k2
 have l2:=lt_of_get a2
 have l3:=lt_of_get b2
 have fin:∀w4,Mod (fun k=>w.heap.size≤k) w2 w4→Mod St.own w w4∧St.At (St.find s key).2 w4:=by
  intro w4 hm4
  exact ⟨hm12.then hm4 (fun i hi hk=>by omega),St.keep _ _ w2 w4 hA2 hm4 (fun k _ hk hf=>by have:=St.footLt s w k hAt hf;omega)⟩
 revert h1 h2
 generalize (St.find s key).1=F at *
 intro h1 h2
 have f12:¬w.heap.size+1=w2.heap.size:=by omega
 have f22:¬w.heap.size+2=w2.heap.size:=by omega
 have f02:¬w.heap.size=w2.heap.size:=by omega
 simp only [ZB,insVc,storeNK,setMany,iopK,iopV,extK,isPlain,Value.cells,ne_eq,Nat.reduceEqDiff,Nat.reduceAdd,Nat.reduceLeDiff,reduceCtorEq,Za,Zag,Zah,Zai,Zak,Zaj,Zal,Zam,Zan,Zau,Zav,Zax,Zbl,Qu.val,Qu.cells]
 refine condP_gen ?_
 intro w3 hw3
 have hm3:Mod (fun k=>w.heap.size≤k) w2 w3:=by rw [hw3];exact ((Mod.refl _ _).alloc _).set (.inr (by omega))
 have hz3:=hm3.size
 have k3:w3.heap[w.heap.size]? = some (.cells #[.string key] 9 (0,0)):=by rw [hw3];simp only [and_true,Zaf,size_alloc,Zay,get_alloc,get_set,size_alloc,f02,k2]
 have a3:w3.heap[w.heap.size+1]? = some (.cells #[.slice none 0 0] 107 (0,0)):=by rw [hw3];simp only [and_true,Zaf,size_alloc,Zay,get_alloc,get_set,size_alloc,f12,a2]
 have b3:w3.heap[w.heap.size+2]? = some (.cells #[.int .i64 0] 48 (0,0)):=by rw [hw3];simp only [and_true,Zaf,size_alloc,Zay,get_alloc,get_set,size_alloc,f22,b2]
 clear hw3
 have l4:=lt_of_get k3
 have l5:=lt_of_get a3
 have l6:=lt_of_get b3
 have g1:¬w.heap.size+1=w3.heap.size:=by omega
 have g2:¬w.heap.size+2=w3.heap.size:=by omega
 refine condP_split ?_ ?_
 ·intro hc
  have hc':F.2≠0:=by simpa using hc
  simp only [ZB,endK,resK,res1,packed,insVc,storeK,isPlain,ne_eq,Nat.reduceEqDiff,Nat.reduceLT,Nat.reduceLeDiff,Zai,Zak,Zaj,Zal,Zam,Zad,Zaw,Zaf,Zbb,Zay,get_set,Zbg,Nat.reduceEqDiff,Nat.reduceLT,a3,b3,l5,l6]
  obtain ⟨x1,x2⟩:=fin _ ((hm3.set (b:=w.heap.size+1) (o:=.cells #[.slice none 0 0] 107 (0,0)) (.inr (by omega))).set (b:=w.heap.size+2) (o:=.cells #[.int .i64 F.2] 48 (0,0)) (.inr (by omega)))
  exact h1 hc' _ x1 x2
 ·intro hc
  have hc':F.2=0:=by simpa using hc
  have g3:w.heap.size+1<w3.heap.size+1:=by omega
  have g4:w.heap.size+2<w3.heap.size+1:=by omega
  simp only [ZB,endK,resK,res1,packed,insVc,load1K,storeK,fillL,buildSK,isPlain,Value.cells,ne_eq,Nat.reduceEqDiff,Nat.reduceLT,Nat.reduceLeDiff,Za,Zah,Zai,Zak,Zaj,Zbe,Zbf,Zbd,Zbc,Zal,Zam,Zad,Zaw,Zbh,Zaa,Zaf,Zbb,Zay,get_alloc,get_set,Zbg,Nat.reduceEqDiff,Nat.reduceLT,k3,a3,b3,g1,g2,g3,g4]
  obtain ⟨x1,x2⟩:=fin _ (((hm3.alloc (.cells #[.string key] 9)).set (b:=w.heap.size+1) (o:=.cells #[.slice (some ⟨w3.heap.size,0,none⟩) 1 1] 107 (0,0)) (.inr (by omega))).set (b:=w.heap.size+2) (o:=.cells #[.int .i64 0] 48 (0,0)) (.inr (by omega)))
  refine h2 hc' _ w3.heap.size x1 x2 ?_
  have y1:¬w3.heap.size=w.heap.size+1:=by omega
  have y2:¬w3.heap.size=w.heap.size+2:=by omega
  simp only [Zaa,Zaf,size_set,size_alloc,get_alloc,get_set,size_alloc,size_set,false_and,y1,y2]
def aB:ByteArray:=⟨#[97]⟩
def qkL:List UInt8:=[2,113,0,0,2,97,0,0]
def ckL:List UInt8:=[2,99,0,0,2,97,0,0]
theorem queueK_a:queueK aB=(⟨qkL.toArray⟩,0):=by decide
theorem nameB_a:nameB aB=true:=by
 unfold nameB
 have h:Lib.idxFunc (fun x => !(plainI x)) true aB = -1:=by decide
 rw [h]
 simp [aB,ByteArray.toList_eq,ByteArray.size]
def qa:Qu:=⟨aB,0,0,0,e0⟩
theorem find_shelf (sb mb:Nat) (h0:3≠mb) (n:Nat) (M0:M):(shelf sb mb h0).find (n,M0) aB=(findR aB (⟨((lookM qkL M0).getD []).toArray⟩,(lookM qkL M0).isSome,0),(n,M0)):=by
 unfold Sto.find
 rw [queueK_a,if_neg (by simp)]
 rfl
theorem declare_shelf (sb mb:Nat) (h0:3≠mb) (n:Nat) (M0:M):(shelf sb mb h0).declare (n,M0) qa =
  (let f:=findR aB (⟨((lookM qkL M0).getD []).toArray⟩,(lookM qkL M0).isSome,0)
   if f.2=0 then (22,(n,M0)) else if f.2≠21 then (f.2,(n,M0)) else (0,(n+1,putM qkL (qbytes qa).data.toList M0))):=by
 have hd:emptyB e0=true:=by simp [emptyB,e0,ByteArray.toList_eq]
 have hn:(e0.toList == aB.toList)=false:=by simp [e0,aB,ByteArray.toList_eq]
 unfold Sto.declare
 simp only [show qa.name=aB from rfl,show qa.dead=e0 from rfl,show qa.ttl=0 from rfl,nameB_a,hd,hn,find_shelf]
 rw [if_neg (by simp),if_neg (by simp),if_neg (by simp),queueK_a]
 by_cases h1:(findR aB (⟨((lookM qkL M0).getD []).toArray⟩,(lookM qkL M0).isSome,0)).2=0
 ·rw [if_pos h1,if_pos h1]
 ·rw [if_neg h1,if_neg h1]
  by_cases h2:(findR aB (⟨((lookM qkL M0).getD []).toArray⟩,(lookM qkL M0).isSome,0)).2≠21
  ·rw [if_pos h2,if_pos h2]
  ·rw [if_neg h2,if_neg h2]
   rfl
theorem find_new:findR aB (⟨((lookM qkL ([]:M)).getD []).toArray⟩,(lookM qkL ([]:M)).isSome,0)=(q0,21):=by rfl
theorem find_put:findR aB (⟨((lookM qkL (putM qkL (qbytes qa).data.toList [])).getD []).toArray⟩,(lookM qkL (putM qkL (qbytes qa).data.toList [])).isSome,0)=(qa,0):=by rfl
theorem find_state (sb mb:Nat) (h0:3≠mb) (s:Nat × M) (name:ByteArray):((shelf sb mb h0).find s name).2=s:=by
 unfold Sto.find
 split
 ·rfl
 ·rfl
theorem get_size (sb mb:Nat) (h0:3≠mb) (s:Nat × M) (N:Nat) (hN:0<N) (h:∀p∈s.2,p.2.length<N) (k:ByteArray):((shelf sb mb h0).get s k).1.1.size<N:=by
 show (ByteArray.mk ((lookM k.data.toList s.2).getD []).toArray).size<N
 have:∀(M0:M),(∀p∈M0,p.2.length<N)→((lookM k.data.toList M0).getD []).length<N:=by
  intro M0
  induction M0 with
  | nil=>intro _;simpa [lookM] using hN
  | cons y r ih =>
   intro h
   unfold lookM
   split
   ·exact h y (by simp)
   ·exact ih (fun p hp=>h p (by simp [hp]))
 simpa [ByteArray.size] using this s.2 h
theorem awake_c (m:Int) (w:World) (K:Value→World→Prop) (hg:Gl m w) (h:∀w',Mod (fun _=>False) w w'→K (.bool true) w'):Ok prog 138 #[] w K:=by
 refine F138.enter (args:=[]) (by simp) ?_
 unfold c138 r138
 simp only [ZB,insVc,Zae,Zab]
 have h0w:3<w.heap.size:=World.block_lt_of_cell? w _ hg
 refine new_c [] _ w _ (.inl ⟨rfl,_,rfl⟩) (by simp) (fun _ h=>by cases h) ?_
 intro w1 sb mb hm1 hsb hmb hs1
 have h0:3≠mb:=by omega
 simp only [ZB,insVc,nilOf,pnilK,buildK,fillL,Value.cells,ne_eq,Nat.reduceEqDiff,Nat.reduceAdd,Nat.reduceLeDiff,Zae,Zab,Zai,Zak,Zaj,Zbe,Zbf,Zbd,Zbc,Zal,Zam,Zbh,Zaa,Zaf,Zbq]
 have hs1':(shelf sb mb h0).At (0,[]) w1:=hs1
 refine declare_c (shelf sb mb h0) (0,[]) qa m w1 _ hs1' (hg.mod hm1 id) (by decide) ⟨by decide,by decide,by decide,by decide⟩ (by decide) ?_ ?_ ?_ ?_ ?_
 ·exact get_size _ _ _ _ _ (by decide) (fun p hp=>by cases hp)
 ·rw [find_state];exact get_size _ _ _ _ _ (by decide) (fun p hp=>by cases hp)
 ·rw [find_state];show (0:Nat)<maxLen;decide
 ·rw [find_state,find_state];show (0:Nat)<maxLen;decide
 intro w2 hm2 hs2
 have hd:(shelf sb mb h0).declare (0,[]) qa=(0,(1,putM qkL (qbytes qa).data.toList [])):=by
  rw [declare_shelf,find_new]
  simp
 rw [hd] at hs2
 have hm12:Mod (fun _=>False) w w2:=hm1.then hm2 (fun i hi hk=>by have hk':i=mb:=hk;omega)
 simp only [ZB,insVc,ne_eq,Nat.reduceEqDiff,Zae,Zab,hd]
 have hf:(shelf sb mb h0).find (1,putM qkL (qbytes qa).data.toList []) aB=((qa,0),(1,putM qkL (qbytes qa).data.toList [])):=by
  rw [find_shelf,find_put]
 refine route0_c (shelf sb mb h0) (1,putM qkL (qbytes qa).data.toList []) aB m w2 _ hs2 (hg.mod hm12 id) (by decide) ?_ ?_ ?_
 ·rw [queueK_a]
  exact get_size _ _ _ _ _ (by decide) (by decide) _
 ·intro hx;rw [hf] at hx;exact (hx rfl).elim
 intro _ w3 g hm3 hs3 hg3
 have e1:((((1:Nat):Int)) == 1)=true:=rfl
 have e2:(aB.toList == (⟨#[97]⟩:ByteArray).toList)=true:=by simp [aB]
 have e3:(0:Int)<((1:Nat):Int):=by decide
 have e4:(0:Int)≤0:=by decide
 simp only [ZB,endK,resK,packed,insVc,pickK,load1K,iopK,iopV,sopK,sopV,iaddrK,extK,lenLK,ne_eq,Nat.reduceEqDiff,reduceCtorEq,Za,Zag,Zah,Zad,Zaa,Int.reduceToNat,Int.reduceBEq,Zbm,hg3,e1,e2,e3,e4]
 refine h _ (hm12.then hm3 (fun i hi hk=>by have hk':i=mb:=hk;omega))
end Go.Oct
namespace Go.Oct
open Go
def first (s:ByteArray):Nat:=((s.data[0]?).getD 0).toNat
end Go.Oct
namespace Go.Oct
open Go Go.Vc Go.VrA
set_option maxRecDepth 100000
def m2 (C B:List UInt8):M:=[(ckL,C),(qkL,B)]
theorem mk_toList (s:ByteArray):(⟨s.data.toList.toArray⟩:ByteArray)=s:=by cases s;simp
end Go.Oct
