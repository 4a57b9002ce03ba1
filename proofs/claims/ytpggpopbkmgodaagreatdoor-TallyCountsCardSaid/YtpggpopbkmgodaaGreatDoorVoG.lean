import Derived.Test.YtpggpopbkmgodaaGreatDoorVoB
import Derived.Test.YtpggpopbkmgodaaGreatDoorTryzShelf
import Derived.Shelf.Strings.Builder1
import Derived.Lib.Replace
import Derived.Lib.SplitLaws
set_option linter.unusedSimpArgs false
set_option linter.unusedVariables false
set_option linter.unusedSectionVars false
set_option linter.unnecessarySimpa false
namespace Go.Proofs
open Go.Shelf
def Tryz.lays167_ren:Go.Shelf.Ren:=⟨fun|167=>304|240=>302|276=>312|n=>n,Tryz.lays154_ren.t,fun|n=>n⟩
theorem Tryz.lays167:Go.Proofs.Lays.n167 Tryz.prog Tryz.lays167_ren:={
 mixed:=by kernel_rfl
 f167:=Tryz.func304.trans (congrArg some (by kernel_rfl))
 f240:=Tryz.func302.trans (congrArg some (by kernel_rfl))
 f276:=Tryz.func312.trans (congrArg some (by kernel_rfl))
 t0:=Tryz.underlying0
 a0:=Tryz.isAgg0
 z0:=Tryz.sizeOf0
 v0:=Tryz.zeroValue0
 t4:=Tryz.underlying4
 a4:=Tryz.isAgg4
 z4:=Tryz.sizeOf4
 v4:=Tryz.zeroValue4
 t5:=Tryz.underlying5
 a5:=Tryz.isAgg5
 z5:=Tryz.sizeOf5
 v5:=Tryz.zeroValue5
 t9:=Tryz.underlying9
 a9:=Tryz.isAgg9
 z9:=Tryz.sizeOf9
 v9:=Tryz.zeroValue9
 t20:=Tryz.underlying20
 a20:=Tryz.isAgg20
 z20:=Tryz.sizeOf20
 v20:=Tryz.zeroValue20
 t37:=Tryz.underlying319
 a37:=Tryz.isAgg319
 z37:=Tryz.sizeOf319
 v37:=Tryz.zeroValue319
 t70:=Tryz.underlying375
 a70:=Tryz.isAgg375
 z70:=Tryz.sizeOf375
 v70:=Tryz.zeroValue375
 t72:=Tryz.underlying377
 a72:=Tryz.isAgg377
 z72:=Tryz.sizeOf377
 v72:=Tryz.zeroValue377
 t75:=Tryz.underlying132
 a75:=Tryz.isAgg132
 z75:=Tryz.sizeOf132
 v75:=Tryz.zeroValue132
 t164:=Tryz.underlying397
 a164:=Tryz.isAgg397
 z164:=Tryz.sizeOf397
 v164:=Tryz.zeroValue397 }
theorem Tryz.Builder_Extra_167:Builder.Extra Tryz.prog Tryz.lays167_ren:={
 sizeBuilder:=by kernel_rfl
 liesBuilder:=by kernel_rfl
 t5:=Tryz.underlying5
 a5:=Tryz.isAgg5
 z5:=Tryz.sizeOf5
 v5:=Tryz.zeroValue5
 infoByte:=by kernel_rfl
 cellsByte:=by kernel_rfl
 sizeByte:=by kernel_rfl
 neB5:=by decide }
end Go.Proofs
namespace Go.Oct
open Go Go.Vc Go.VrA Go.Proofs.Tryz
set_option maxRecDepth 100000
def IsB (w:World) (B b:Nat) (l:List UInt8):Prop:=Lib.IsBuilder 377 5 B b (Lib.byteCells l) w
theorem mod_of_below {B:Nat} {w w':World} (h:Go.RowKit.Below B w w'):Mod (fun k=>B≤k) w w' :=
 ⟨h.os,h.tape,h.output,h.size,fun k _ hs=>h.block k (by omega)⟩
theorem isB_fresh (w:World) (b:Nat) (h:w.heap[b]? = some (.cells #[.pointer none,.slice none 0 0] 377 (0,0))):IsB w b b [] :=
 .inl ⟨Nat.le_refl _,_,h,World.ownsRow_nil w b _ 1,by simp [Value.ownBlock]⟩
theorem wstr_c (B b:Nat) (l:List UInt8) (s:ByteArray) (w:World) (K:Value→World→Prop) (hb:IsB w B b l) (hlen:l.length+s.size≤140737488355328) (hB:B≤w.heap.size)
  (h:∀w',Mod (fun k=>B≤k) w w'→IsB w' B b (l ++ s.data.toList)→K (.tuple #[.int .i64 s.size,.nilIface]) w') :
  Ok prog 287 #[ptr b,.string s] w K:=by
 refine ok_of_calls (by kernel_rfl) (Proofs.Any.Builder_WriteString { Proofs.Tryz.lays154 with } Proofs.Tryz.Builder_Extra_154 B b _ s w hb (by rw [Lib.byteCells_length];exact hlen) hB) ?_
 rintro e w' ⟨rfl,hb',hlo⟩
 refine ⟨_,rfl,h w' (mod_of_below hlo) (.inr ?_)⟩
 rw [Lib.byteCells_append]
 exact hb'
theorem wbyte_c (B b:Nat) (l:List UInt8) (c:UInt8) (w:World) (K:Value→World→Prop) (hb:IsB w B b l) (hlen:l.length+1≤140737488355328) (hB:B≤w.heap.size)
  (h:∀w',Mod (fun k=>B≤k) w w'→IsB w' B b (l ++ [c])→K .nilIface w') :
  Ok prog 304 #[ptr b,.int .u8 (c.toNat:Int)] w K:=by
 refine ok_of_calls (by kernel_rfl) (Proofs.Any.Builder_WriteByte Proofs.Tryz.lays167 Proofs.Tryz.Builder_Extra_167 B b _ (c.toNat:Int) w hb (by rw [Lib.byteCells_length];exact hlen) hB) ?_
 rintro e w' ⟨rfl,hb',hlo⟩
 refine ⟨_,rfl,h w' (mod_of_below hlo) (.inr ?_)⟩
 rw [Lib.byteCells_append]
 exact hb'
theorem bstring_c (B b:Nat) (l:List UInt8) (w:World) (K:Value→World→Prop) (hb:IsB w B b l) (hB:B≤w.heap.size)
  (h:∀w',Mod (fun k=>B≤k) w w'→K (.string ⟨l.toArray⟩) w') :
  Ok prog 290 #[ptr b] w K:=by
 refine ok_of_calls (by kernel_rfl) (Proofs.Tryz.Builder_String_any B b l w hb hB) ?_
 rintro e w' ⟨rfl,hlo⟩
 exact ⟨_,rfl,h w' (mod_of_below hlo)⟩
theorem blen_c (B b:Nat) (l:List UInt8) (w:World) (K:Value→World→Prop) (hb:IsB w B b l) (h:K (.int .i64 l.length) w) :
  Ok prog 289 #[ptr b] w K:=by
 refine ok_of_calls (by kernel_rfl) (Proofs.Tryz.Builder_Len B b _ w hb) ?_
 rintro e w' ⟨rfl,rfl⟩
 rw [Lib.byteCells_length]
 exact ⟨_,rfl,h⟩
end Go.Oct
namespace Go.Oct
open Go
def esc (l:List UInt8):List UInt8:=l.flatMap fun c=>if c=0 then [0,255] else [c]
theorem index_zero_cons (b:UInt8) (l:List UInt8):Lib.index (b :: l) [0]=if b=0 then 0 else if Lib.index l [0] == -1 then -1 else Lib.index l [0]+1:=by
 rw [Lib.index]
 by_cases h:b=0
 ·subst h;simp
 ·have:([0]:List UInt8).isPrefixOf (b :: l)=false:=by
   simp [List.isPrefixOf];exact fun e=>h e.symm
  rw [this];simp [h]
theorem repl_esc:∀s:List UInt8,Lib.replaceK [0] [0,255] (Lib.count s [0]) s=esc s:=by
 intro s
 induction s with
 | nil=>rfl
 | cons c l ih =>
  by_cases h:c=0
  ·subst h
   rw [Lib.count_cons_eq,Nat.add_comm,Lib.replaceK_hit _ _ _ _ 0 (by rw [index_zero_cons];simp)]
   simp [esc,ih]
  ·rw [Lib.count_cons_ne _ _ _ h]
   have e:esc (c :: l)=c :: esc l:=by simp [esc,h]
   rw [e,← ih]
   generalize hk:Lib.count l [0]=k
   cases k with
   | zero=>rfl
   | succ k =>
    obtain ⟨i,hi⟩:=Lib.index_of_count (s:=l) (old:=[0]) (by omega)
    have hi':Lib.index (c :: l) [0]=((i+1:Nat):Int):=by
     rw [index_zero_cons,if_neg h,hi]
     have:((i:Int) == -1)=false:=by rw [beq_eq_false_iff_ne];omega
     simp [this]
    rw [Lib.replaceK_hit _ _ _ _ _ hi',Lib.replaceK_hit _ _ _ _ _ hi]
    simp []
theorem replaceAll_esc (s:List UInt8):Lib.replaceAll s [0] [0,255]=esc s:=by
 unfold Lib.replaceAll Lib.replace Lib.replaceNum
 rw [if_neg (by decide),if_pos (by left;decide)]
 exact repl_esc s
theorem esc_length (l:List UInt8):(esc l).length≤2*l.length:=by
 induction l with
 | nil=>simp [esc]
 | cons c l ih =>
  have:(esc (c :: l)).length=(if c=0 then [0,255] else [c]).length+(esc l).length:=by simp [esc]
  rw [this]
  by_cases h:c=0
  ·simp [h];omega
  ·simp [h];omega
structure Pt where
 t:Bool
 n:Nat
 s:ByteArray
def Pt.cells (p:Pt):List Value:=[.bool p.t,.int .u64 p.n,.string p.s]
def Pt.val (p:Pt):Value:=.agg p.cells.toArray
def num' (n:Nat):Pt:=⟨false,n,e0⟩
def str (s:ByteArray):Pt:=⟨true,0,s⟩
def Pt.good (p:Pt):Prop:=p.n<2^64∧p.s.size<4294967281
def Pt.bytes (p:Pt):List UInt8:=if p.t then 2 :: (esc p.s.data.toList ++ [0,0]) else 1 :: (big p.n 8).data.toList
def keyL:List Pt→List UInt8→ByteArray × Int
 | [],acc=>(⟨acc.toArray⟩,0)
 | p :: l,acc=>if (acc ++ p.bytes).length > 255 then (e0,5) else keyL l (acc ++ p.bytes)
end Go.Oct
namespace Go.Oct
open Go Go.Vc Go.VrA Go.Proofs.Tryz
set_option maxRecDepth 100000
def Gl (m:Int) (w:World):Prop:=w.cell? ⟨3,0,none⟩=some (.int .i64 m)
theorem Gl.mod {m:Int} {S:Nat→Prop} {w w':World} (h:Gl m w) (hm:Mod S w w') (hs:¬S 3):Gl m w':=by
 unfold Gl at *
 rw [World.cell?_of_block (hm.get 3 (World.block_lt_of_cell? w _ h) hs)]
 exact h
theorem Gl.lt {m:Int} {w:World} (h:Gl m w):3<w.heap.size:=World.block_lt_of_cell? w _ h
theorem IsB.keep {w w':World} {B b:Nat} {l:List UInt8} (h:IsB w B b l) (hm:Mod (fun _=>False) w w'):IsB w' B b l:=by
 have hg:w.grownBy w' none:=⟨hm.os,hm.tape,hm.output,hm.size,fun k hk _=>hm.get k hk id⟩
 rcases h with ⟨h1,v,h2,h3,h4⟩|⟨h1,v,h2,h3,h4⟩
 ·exact .inl ⟨h1,v,hm.keep h2 id,h3.kept hg (by cases hv:v.ownBlock <;> simp),h4⟩
 ·exact .inr ⟨h1,v,hm.keep h2 id,h3.kept hg (by cases hv:v.ownBlock <;> simp),h4⟩
theorem str_c (s:ByteArray) (w:World) (K:Value→World→Prop) (h:∀w',Mod (fun _=>False) w w'→K (str s).val w') :
  Ok prog 220 #[.string s] w K:=by
 refine F220.enter (args:=[.string s]) (by simp) ?_
 unfold c220 r220
 simp only [ZB,endK,resK,resN,packed,insVc,storeNK,setMany,buildK,fillL,isPlain,Value.cells,ne_eq,Nat.reduceEqDiff,Nat.reduceAdd,Nat.reduceLeDiff,reduceCtorEq,Zac,Za,Zai,Zak,Zaj,Zbe,Zbf,Zbd,Zbc,Zal,Zam,Zan,Zad,Zbh,Zaa,Zar,Zap,Zaq,Zao,Zas,Zat,Zau,Zav,Zax,Zbl,Zbb,Zay,Zbl]
 exact h _ (((Mod.refl _ _).alloc _).set (.inl (Nat.le_refl _)))
theorem num_c (n:Nat) (w:World) (K:Value→World→Prop) (h:∀w',Mod (fun _=>False) w w'→K (num' n).val w') :
  Ok prog 142 #[.int .u64 n] w K:=by
 refine F142.enter (args:=[.int .u64 n]) (by simp) ?_
 unfold c142 r142
 simp only [ZB,endK,resK,resN,packed,insVc,storeNK,setMany,buildK,fillL,isPlain,Value.cells,ne_eq,Nat.reduceEqDiff,Nat.reduceAdd,Nat.reduceLeDiff,reduceCtorEq,Zac,Za,Zai,Zak,Zaj,Zbe,Zbf,Zbd,Zbc,Zal,Zam,Zan,Zad,Zbh,Zaa,Zar,Zap,Zaq,Zao,Zas,Zat,Zau,Zav,Zax,Zbl,Zbb,Zay,Zbl]
 exact h _ (((Mod.refl _ _).alloc _).set (.inl (Nat.le_refl _)))
theorem replAll_c (s:ByteArray) (m:Int) (w:World) (K:Value→World→Prop) (hg:Gl m w) (hs:s.size<4294967281)
  (h:∀w',Mod (fun _=>False) w w'→K (.string ⟨(esc s.data.toList).toArray⟩) w') :
  Ok prog 303 #[.string s,.string ⟨#[0]⟩,.string ⟨#[0,255]⟩] w K:=by
 have hc:Lib.countB s ⟨#[0]⟩≤s.size+1:=Lib.count_le _ _
 refine ok_of_calls (by kernel_rfl) (Proofs.Tryz.strings_ReplaceAll s ⟨#[0]⟩ ⟨#[0,255]⟩ m w hs hg (by decide) (by
  have:(⟨#[0,255]⟩:ByteArray).size=2:=rfl
  rw [this];omega)) ?_
 rintro e w' ⟨rfl,hlo⟩
 refine ⟨_,rfl, ?_⟩
 have he:Lib.replaceAll s.data.toList (⟨#[0]⟩:ByteArray).data.toList (⟨#[0,255]⟩:ByteArray).data.toList=esc s.data.toList:=replaceAll_esc _
 rw [he]
 exact h w' (Mod.of_below hlo)
theorem bytes_c (p:Pt) (m:Int) (w:World) (K:Value→World→Prop) (hg:Gl m w) (hp:p.good)
  (h:∀w',Mod (fun _=>False) w w'→K (.string ⟨p.bytes.toArray⟩) w') :
  Ok prog 288 #[p.val] w K:=by
 refine F288.enter (args:=[p.val]) (by simp) ?_
 unfold c288 r288
 simp only [ZB,insVc,load1K,notK,faddrK,Value.cells,ne_eq,Nat.reduceEqDiff,Zac,Za,Zah,Zbl,Pt.val,Pt.cells,Zbl]
 have step:∀ {w' w''},(Mod (fun _=>False) w w'∧w'.heap[w.heap.size]? = some (.cells #[.bool p.t,.int .u64 p.n,.string p.s] 220 (0,0)))→Mod (fun _=>False) w' w''→(Mod (fun _=>False) w w''∧w''.heap[w.heap.size]? = some (.cells #[.bool p.t,.int .u64 p.n,.string p.s] 220 (0,0))):=fun h hm=>⟨h.1.trans hm,hm.keep h.2 id⟩
 have hC0:∀w',w'=w.alloc (.cells #[.bool p.t,.int .u64 p.n,.string p.s] 220)→(Mod (fun _=>False) w w'.drew∧w'.drew.heap[w.heap.size]? = some (.cells #[.bool p.t,.int .u64 p.n,.string p.s] 220 (0,0))):=by
  rintro w' rfl
  exact ⟨((Mod.refl _ _).alloc _).drew,get_alloc_new _ _⟩
 refine condP_split ?_ ?_
 ·intro ht
  have ht':p.t=false:=by simpa using ht
  simp only [vc_seq]
  refine draw_s (fun w'=>Mod (fun _=>False) w w'∧w'.heap[w.heap.size]? = some (.cells #[.bool p.t,.int .u64 p.n,.string p.s] 220 (0,0))) (by kernel_rfl) (by kernel_rfl) (by kernel_rfl) (hC0 _ rfl) ?_
  simp only [ZB,endK,resK,packed,insVc,sopK,sopV,faddrK,ne_eq,Nat.reduceEqDiff,Zad,vcS_nil,vcS_cons,stepB_true,stepB_false,pureI]
  refine look_call (.string (big 1 1)) (fun w' hw' => ?_) ?_
  ·exact wone_c 1 w' _ (by decide) fun w'' hm=>⟨rfl,step hw' hm⟩
  refine look_load (b:=w.heap.size) (o:=1) (v:=.int .u64 p.n) (by simp only [upd_same,ev_tmp]) (fun w' hw'=>⟨_,_,_,hw'.2,rfl⟩) ?_
  refine look_call (.string (big p.n 8)) (fun w' hw' => ?_) ?_
  ·exact weight_c p.n w' _ hp.1 fun w'' hm=>⟨rfl,step hw' hm⟩
  have hmax:¬(((big 1 1).size+(big p.n 8).size:Nat):Int) > IntKind.i64.max:=by
   rw [big_size,big_size];decide
  simp only [loadV_some,Zaf,hmax]
  intro w' hw'
  have e:p.bytes.toArray=(big 1 1 ++ big p.n 8).data:=by
   simp [Pt.bytes,ht',ByteArray.data_append,big]
  rw [e] at h
  exact h w' hw'.1
 ·intro ht
  have ht':p.t=true:=by simpa using ht
  simp only [vc_skip,vc_seq,thenQ_normal]
  refine draw_s (fun w'=>Mod (fun _=>False) w w'∧w'.heap[w.heap.size]? = some (.cells #[.bool p.t,.int .u64 p.n,.string p.s] 220 (0,0))) (by kernel_rfl) (by kernel_rfl) (by kernel_rfl) (hC0 _ rfl) ?_
  simp only [ZB,endK,resK,packed,insVc,sopK,sopV,faddrK,ne_eq,Nat.reduceEqDiff,Zad,vcS_nil,vcS_cons,stepB_true,stepB_false,pureI]
  refine look_call (.string (big 2 1)) (fun w' hw' => ?_) ?_
  ·exact wone_c 2 w' _ (by decide) fun w'' hm=>⟨rfl,step hw' hm⟩
  refine look_load (b:=w.heap.size) (o:=2) (v:=.string p.s) (by simp only [upd_same,ev_tmp]) (fun w' hw'=>⟨_,_,_,hw'.2,rfl⟩) ?_
  refine look_call (.string ⟨(esc p.s.data.toList).toArray⟩) (fun w' hw' => ?_) ?_
  ·exact replAll_c p.s m w' _ (hg.mod hw'.1 id) hp.2 fun w'' hm=>⟨rfl,step hw' hm⟩
  have hes:=esc_length p.s.data.toList
  have hsz:p.s.data.toList.length=p.s.size:=by rw [Array.length_toList];rfl
  have h1:(⟨(esc p.s.data.toList).toArray⟩:ByteArray).size=(esc p.s.data.toList).length:=by simp [ByteArray.size]
  have hmx:IntKind.i64.max=9223372036854775807:=rfl
  have hp2:=hp.2
  have hmax:¬(((big 2 1).size+(⟨(esc p.s.data.toList).toArray⟩:ByteArray).size:Nat):Int) > IntKind.i64.max:=by
   rw [big_size,h1,hmx];omega
  have hmax2:¬(((big 2 1 ++ (⟨(esc p.s.data.toList).toArray⟩:ByteArray)).size+(⟨#[0,0]⟩:ByteArray).size:Nat):Int) > IntKind.i64.max:=by
   rw [ByteArray.size_append,big_size,h1,hmx,show (⟨#[0,0]⟩:ByteArray).size=2 from rfl];omega
  simp only [loadV_some,Zaf,hmax,hmax2]
  intro w' hw'
  have e:p.bytes.toArray=(big 2 1 ++ (⟨(esc p.s.data.toList).toArray⟩:ByteArray) ++ ⟨#[0,0]⟩).data:=by
   simp [Pt.bytes,ht',ByteArray.data_append,big]
  rw [e] at h
  exact h w' hw'.1
def IsPts (w:World) (v:Value) (l:List Pt):Prop :=
 ∃g cap cur,v = .slice (some ⟨g,0,none⟩) l.length cap∧w.heap[g]? = some (.cells cur 220 (0,0))∧cur.toList.take (l.length * 3)=l.flatMap Pt.cells
theorem flat_drop:∀(l:List Pt) (j:Nat),(l.flatMap Pt.cells).drop (j * 3)=(l.drop j).flatMap Pt.cells:=by
 intro l
 induction l with
 | nil=>intro j;simp
 | cons p l ih =>
  intro j
  cases j with
  | zero=>simp
  | succ j =>
   have:(j+1)*3=j * 3+3:=by omega
   rw [this]
   simp only [List.flatMap_cons,Zby,← ih]
   rw [Nat.add_comm,← List.drop_drop]
   simp [Pt.cells]
theorem pts_at {cur:Array Value} {l:List Pt} (h:cur.toList.take (l.length * 3)=l.flatMap Pt.cells) {j:Nat} {p:Pt} (hj:l[j]? = some p) :
  j * 3+3≤cur.size∧cur.extract (j * 3) (j * 3+3)=p.cells.toArray:=by
 obtain ⟨hlt,he⟩:=List.getElem?_eq_some_iff.1 hj
 have hlen:(l.flatMap Pt.cells).length=l.length * 3:=by
  clear h hj he hlt
  induction l with
  | nil=>rfl
  | cons p l ih=>simp [ih,Pt.cells];omega
 have hsz:l.length * 3≤cur.size:=by
  have:=congrArg List.length h
  rw [hlen,List.length_take] at this
  have hs:cur.toList.length=cur.size:=Array.length_toList
  omega
 refine ⟨by omega, ?_⟩
 apply Array.ext'
 have e:(cur.extract (j * 3) (j * 3+3)).toList=(cur.toList.drop (j * 3)).take 3:=by
  simp [List.take_drop,Nat.add_comm]
 rw [e]
 have e2:(cur.toList.drop (j * 3)).take 3=((cur.toList.take (l.length * 3)).drop (j * 3)).take 3:=by
  rw [List.drop_take,List.take_take]
  congr 1;omega
 rw [e2,h,flat_drop,List.drop_eq_getElem_cons hlt]
 simp [he,Pt.cells]
theorem keyf_c (l:List Pt) (v:Value) (m:Int) (w:World) (K:Value→World→Prop) (hg:Gl m w) (hv:IsPts w v l) (hl:l.length<2^60) (hp:∀p∈l,p.good)
  (h:∀w',Mod (fun _=>False) w w'→K (.tuple #[.string (keyL l []).1,.int .i64 (keyL l []).2]) w') :
  Ok prog 254 #[v] w K:=by
 obtain ⟨g,cap,cur,rfl,hg1,hcur⟩:=hv
 refine F254.enter (args:=[.slice (some ⟨g,0,none⟩) l.length cap]) (by simp) ?_
 unfold c254 r254
 have hglt:=lt_of_get hg1
 simp only [ZB,insVc,lenLK,Value.cells,ne_eq,reduceCtorEq,Zac,Za]
 refine vc_loop (fun m ρ ds w'=>ds=[]∧ρ 7 = .slice (some ⟨g,0,none⟩) l.length cap∧ρ 8 = .int .i64 l.length∧ρ 4=ptr w.heap.size∧Mod (fun _=>False) w w' ∧
  ∃(i:Nat) (acc:List UInt8),i+m=l.length∧ρ 9 = .int .i64 i∧IsB w' w.heap.size w.heap.size acc∧acc.length≤255∧keyL l []=keyL (l.drop i) acc) l.length ?_ ?_
 ·exact ⟨rfl,by simp only [upd_same,upd_other,ne_eq,not_false_eq_true,Nat.reduceEqDiff],by simp only [upd_same,upd_other,ne_eq,not_false_eq_true,Nat.reduceEqDiff],by simp only [upd_same,upd_other,ne_eq,not_false_eq_true,Nat.reduceEqDiff],(Mod.refl _ _).alloc _,0,[],by simp,by simp only [upd_same];rfl,isB_fresh _ _ (get_alloc_new _ _),by simp,by simp⟩
 ·rintro k ρ ds w' ⟨rfl,h7,h8,h4,hm,i,acc,him,h9,hb,hacc,hk⟩
  simp only [ZB,insVc,iopK,iopV,reduceCtorEq,h8,h9]
  by_cases hi:(i:Int)<l.length
  ·obtain ⟨p,hp1⟩:∃p,l[i]? = some p:=⟨_,List.getElem?_eq_getElem (by omega)⟩
   have hgood:p.good:=hp p (List.mem_of_getElem? hp1)
   obtain ⟨hsz,hex⟩:=pts_at hcur hp1
   simp only [ZB,insVc,loadNK,storeNK,setMany,iaddrK,isPlain,Value.cells,ne_eq,Nat.reduceEqDiff,Nat.reduceAdd,Nat.reduceLeDiff,Zae,Zab,Zai,Zak,Zaj,Zal,Zam,Zan,Zbj,Zar,Zap,Zaq,Zao,Zas,Zat,Zau,Zav,Zax,Zbl,Zbb,Zay,hi,h7,h9,hm.keep hg1 id,hex,Pt.cells]
   refine ⟨by omega,hsz, ?_⟩
   have hmx:Mod (fun _=>False) w' (Vc.set (w'.alloc (.cells #[.bool false,.int .u64 0,.string ⟨#[]⟩] 220)) w'.heap.size (.cells #[.bool p.t,.int .u64 p.n,.string p.s] 220 (0,0))):=((Mod.refl _ _).alloc _).set (.inl (Nat.le_refl _))
   refine bytes_c p m _ _ ((hg.mod hm id).mod hmx id) hgood ?_
   intro w2 hm2
   simp only [ZB,insVc,ne_eq,Nat.reduceEqDiff,Zae,Zab,h4]
   have hb2:=(hb.keep hmx).keep hm2
   have hm12:=(hm.trans hmx).trans hm2
   have hpl:p.bytes.length≤2^34:=by
    have hes:=esc_length p.s.data.toList
    have hsz:p.s.data.toList.length=p.s.size:=by rw [Array.length_toList];rfl
    have h2:=hgood.2
    unfold Pt.bytes
    split
    ·simp only [Zak,Zcb,Zaj];omega
    ·simp [big]
   have hps:(⟨p.bytes.toArray⟩:ByteArray).size=p.bytes.length:=by simp [ByteArray.size]
   refine wstr_c w.heap.size w.heap.size acc ⟨p.bytes.toArray⟩ w2 _ hb2 (by rw [hps];omega) hm12.size ?_
   intro w3 hm3 hb3
   simp only [] at hb3
   have hm13:Mod (fun _=>False) w w3:=hm12.then hm3 (fun i hi hk=>by omega)
   simp only [ZB,insVc,ne_eq,Nat.reduceEqDiff,Zae,Zab,h4]
   refine blen_c w.heap.size w.heap.size _ w3 _ hb3 ?_
   simp only [ZB,insVc,iopK,iopV,reduceCtorEq]
   have hkl:keyL (l.drop i) acc=if (acc ++ p.bytes).length > 255 then (e0,5) else keyL (l.drop (i+1)) (acc ++ p.bytes):=by
    obtain ⟨hlt,he⟩:=List.getElem?_eq_some_iff.1 hp1
    rw [List.drop_eq_getElem_cons hlt,he]
    rfl
   refine condP_split ?_ ?_
   ·intro hgt
    have hgt':=of_decide_eq_true hgt
    rw [if_pos (by omega)] at hkl
    simp only [ZB,endK,resK,packed,insVc,ne_eq,Nat.reduceEqDiff,Zad,Zaw]
    rw [hk,hkl] at h
    exact h w3 hm13
   ·intro hgt
    have hgt':=of_decide_eq_false hgt
    rw [if_neg (by omega)] at hkl
    simp only [ZB,insVc,iopK,iopV,ne_eq,Nat.reduceEqDiff,reduceCtorEq,h7,h8,h4,h9]
    refine ⟨k-1,by omega,hm13,i+1,acc ++ p.bytes,by omega, ?_,hb3,by omega,by rw [hk,hkl]⟩
    rw [wrap_i64 _ (by omega)];rfl
  ·have hil:i=l.length:=by omega
   subst hil
   simp only [ZB,insVc,ne_eq,Nat.reduceEqDiff,Zae,Zab,hi,h4]
   refine bstring_c w.heap.size w.heap.size acc w' _ hb hm.size ?_
   intro w2 hm2
   simp only [ZB,endK,resK,packed,insVc,ne_eq,Nat.reduceEqDiff,Zad,Zaw]
   rw [hk,List.drop_of_length_le (Nat.le_refl _)] at h
   exact h w2 (hm.then hm2 (fun i hi hk=>by omega))
theorem info_of {P:Program} {e:TypeId} {z:Option Value} {s b:Nat} (h:(P.info? e).map (fun i=>(i.zero,i.size,i.bytes))=some (z,s,b)):∃i,P.info? e=some i∧i.zero=z∧i.size=s∧i.bytes=b:=by
 cases hi:P.info? e with
 | none=>rw [hi] at h;cases h
 | some i=>rw [hi] at h;simp at h;exact ⟨i,rfl,h.1,h.2.1,h.2.2⟩
theorem info_pt:(prog.info? 220).map (fun i=>(i.zero,i.size,i.bytes))=some (some (.agg #[.bool false,.int .u64 0,.string ⟨#[]⟩]),3,32):=by kernel_rfl
def IsArg (w:World) (v:Value) (l:List Pt):Prop:=(l=[]∧∃c,v = .slice none 0 c)∨IsPts w v l
theorem pts_len (l:List Pt):(l.flatMap Pt.cells).length=l.length * 3:=by
 induction l with
 | nil=>rfl
 | cons p l ih=>simp [ih,Pt.cells];omega
theorem pts_one (l:List Pt):∀u∈l.flatMap Pt.cells,u.oneCell'=true:=by
 intro u hu
 obtain ⟨p,_,hp⟩:=List.mem_flatMap.1 hu
 simp only [Pt.cells,Zbo,Zbp,or_false] at hp
 rcases hp with rfl|rfl|rfl <;> rfl
theorem src_arg {w:World} {v:Value} {l:List Pt} (h:IsArg w v l):Src prog 3 301 v l.length (l.flatMap Pt.cells) w:=by
 rcases h with ⟨rfl,c,rfl⟩|⟨g,cap,cur,rfl,hg,hcur⟩
 ·exact Src.ofNil w (e':=220) (by kernel_rfl) c
 ·refine Src.ofSlice w (e':=220) (by kernel_rfl) ⟨g,0,none⟩ l.length cap _ (pts_len l) ?_ (pts_one l)
  intro j u hj
  have hjl:j<l.length * 3:=by rw [← pts_len];exact (List.getElem?_eq_some_iff.1 hj).1
  rw [← hcur,List.getElem?_take,if_pos hjl] at hj
  simpa [World.cell?,hg,Addr.add_lit] using hj
theorem isArg_keep {w w':World} {S:Nat→Prop} {v:Value} {l:List Pt} (h:IsArg w v l) (hm:Mod S w w') (hS:∀k,k<w.heap.size→¬S k):IsArg w' v l:=by
 rcases h with ⟨rfl,c,rfl⟩|⟨g,cap,cur,rfl,hg,hcur⟩
 ·exact .inl ⟨rfl,c,rfl⟩
 ·exact .inr ⟨g,cap,cur,rfl,hm.keep hg (hS g (lt_of_get hg)),hcur⟩
theorem key_c (sort:ByteArray) (l:List Pt) (v:Value) (m:Int) (w:World) (K:Value→World→Prop) (hg:Gl m w) (hv:IsArg w v l) (hl:l.length<2^20) (hs:sort.size<4294967281) (hp:∀p∈l,p.good)
  (h:∀w',Mod (fun _=>False) w w'→K (.tuple #[.string (keyL (str sort :: l) []).1,.int .i64 (keyL (str sort :: l) []).2]) w') :
  Ok prog 202 #[.string sort,v] w K:=by
 refine F202.enter (args:=[.string sort,v]) (by simp) ?_
 unfold c202 r202
 simp only [ZB,insVc,ne_eq,reduceCtorEq,Zac,Zae,Zab,Za]
 refine str_c sort w _ ?_
 intro w1 hm1
 simp only [ZB,insVc,fillL,buildSK,Value.cells,ne_eq,Nat.reduceEqDiff,Nat.reduceAdd,Nat.reduceLeDiff,Zac,Za,Zag,Zai,Zak,Zaj,Zbe,Zbf,Zbd,Zbc,Zal,Zam,Zan,Zbh,Zaa,Pt.val,Pt.cells,str]
 have hown:=World.ownsRow_lit (base:=w.heap.size) (e:=220) (size:=3) w1 #[.bool true,.int .u64 0,.string sort] 1 hm1.size (by simp [maxLen]) rfl
 have hm2:Mod (fun _=>False) w (w1.alloc (.cells #[.bool true,.int .u64 0,.string sort] 220)):=hm1.alloc _
 generalize hw2:w1.alloc (.cells #[.bool true,.int .u64 0,.string sort] 220)=w2 at *
 obtain ⟨i,hi,hi1,hi2⟩:=info_of info_pt
 obtain ⟨v',w3,hr,hown',hm3,hblk⟩:=run_append_mine (P:=prog) w.heap.size 301 301 301 220 i _ 3 (by kernel_rfl) hi hi1 hi2.1 rfl (by decide) _ 1 _ hown v l.length _ (src_arg (isArg_keep hv hm2 (fun _ _=>id))) (by simp [maxLen];omega) (by rw [hi2.2];omega) hm2.size
 refine rawK_append rfl rfl rfl (by simpa only [vc_skip,vc_seq,vc_cond,vc_block,vc_exit,vc_ret,vc_ops,vcOps_nil,vcOps_cons,vcOps_gate,gateK_true,gateK_false,gate_true,gate_false,gate_undef,goL_apply,thenQ_normal,thenQ_ret,thenQ_exit,blockQ_normal,blockQ_ret,blockQ_same,blockQ_exit,condP_true,condP_false,upd_same,upd_other,updO_some,updO_none,ev_tmp,ev_const,ev_global,ev_func,endQ_ret,endQ_normal,endK,resK,resN,res1,resO_cells,resNO_cells,packed,initE_at,insVc,pickK,load1K,loadO_cells,loadV_some,loadV_none,loadNK,loadNO_cells,storeK,storeO_cells,storeNK,storeNO_cells,setMany,nilK,nilM,iopK,iopV,sopK,sopV,bopK,nilOf,pnilK,notK,convK,sameK,faddrK,fld1K,fldNK,iaddrK,iaddrAK,sidxK,extK,lenSK,lenLK,callvK,invK,buildK,fillL,buildSK,boundOf,slSK,slLK,slAK,isPlain,Value.cells,ne_eq,not_false_eq_true,not_true_eq_false,Nat.reduceEqDiff,Nat.reduceAdd,Nat.reduceLT,Nat.reduceLeDiff,reduceCtorEq,Bool.not_true,Bool.not_false,Option.map_some,Option.map_none,Option.getD_some,Option.getD_none,List.map_cons,List.map_nil,List.getElem?_cons_zero,List.getElem?_cons_succ,List.getElem?_nil,List.getElem?_toArray,List.size_toArray,List.length_cons,List.length_nil,List.zipIdx_cons,List.zipIdx_nil,List.foldl_cons,List.foldl_nil,List.setIfInBounds_toArray,List.set_cons_zero,List.set_cons_succ,List.append_eq,List.nil_append,List.cons_append,List.append_nil,List.toList_toArray,true_and,and_true,true_or,or_true,or_false,false_or,and_self,if_true,if_false,ite_true,ite_false,Bool.false_eq_true,Nat.zero_add,Nat.add_zero,decide_true,decide_false,Bool.and_true,Bool.and_false,Bool.true_and,Bool.false_and,Option.isNone_some,Option.isNone_none,Int.reduceLT,Int.reduceLE,Int.reduceToNat,Int.toNat_natCast,Int.reduceAdd,Int.reduceSub,Int.reduceMul,Int.reduceNeg,Int.reduceEq,Int.reduceNe,Int.reduceBEq,Int.reduceBNe,Nat.mul_one,List.extract_toArray,List.extract_eq_take_drop,List.drop_zero,List.drop_succ_cons,List.take_zero,List.take_succ_cons,Nat.sub_zero,Nat.add_sub_cancel,Nat.add_sub_cancel_left,vcS_nil,vcS_cons,vcS_gate,gateS_true,gateS_false,stepB_true,stepB_false,pureI,Nat.zero_mul,Nat.one_mul,Nat.reduceMul,Nat.reduceSub,List.all_toArray',List.all_cons,List.all_nil,size_set,size_alloc,size_drew,get_alloc_new,get_set_same,get_drew,Nat.lt_add_one,vcD_nil,vcD_cons,vcD_gate,gateD_true,gateD_false,stepD_pure,stepD_load,stepD_step,kindI,loadI] using hr) ?_
 simp only [ZB,insVc,Zae,Zab]
 have hm13:Mod (fun _=>False) w w3:=hm2.then hm3 (fun k hk he=>by simp only [Value.ownBlock,Option.some.injEq] at he;have:=hm1.size;omega)
 have hpts:IsPts w3 v' (str sort :: l):=by
  rcases hown'.2 with ⟨_,h0⟩|⟨g,cap,cur,rfl,_,hg',_,_,_,ht⟩
  ·omega
  ·refine ⟨g,cap,cur, ?_,hg', ?_⟩
   ·simp [Nat.add_comm]
   ·simpa [Nat.add_comm,Pt.cells,str] using ht
 refine keyf_c (str sort :: l) v' m w3 _ (hg.mod hm13 id) hpts (by simp;omega) ?_ ?_
 ·intro p hp'
  rcases List.mem_cons.1 hp' with rfl|hp'
  ·exact ⟨by simp [str],hs⟩
  ·exact hp p hp'
 ·intro w4 hm4
  simp only [ZB,endK,resK,packed,insVc,extK,ne_eq,Nat.reduceEqDiff,Za,Zag,Zah,Zad,Zaw]
  exact h w4 (hm13.trans hm4)
def queueK (name:ByteArray):ByteArray × Int:=keyL [str ⟨#[113]⟩,str name] []
def counterK (name:ByteArray):ByteArray × Int:=keyL [str ⟨#[99]⟩,str name] []
theorem pts_lit (w:World) (ps:List Pt) (cs:Array Value) (h:cs=(ps.flatMap Pt.cells).toArray):IsPts (w.alloc (.cells cs 220)) (.slice (some ⟨w.heap.size,0,none⟩) ps.length ps.length) ps:=by
 subst h
 refine ⟨w.heap.size,ps.length,_,rfl,get_alloc_new _ _, ?_⟩
 rw [← pts_len];exact List.take_of_length_le (Nat.le_refl _)
theorem queue_c (name:ByteArray) (m:Int) (w:World) (K:Value→World→Prop) (hg:Gl m w) (hs:name.size<4294967281)
  (h:∀w',Mod (fun _=>False) w w'→K (.tuple #[.string (queueK name).1,.int .i64 (queueK name).2]) w') :
  Ok prog 162 #[.string name] w K:=by
 refine F162.enter (args:=[.string name]) (by simp) ?_
 unfold c162 r162
 simp only [ZB,insVc,ne_eq,reduceCtorEq,Zac,Zae,Zab,Za]
 refine str_c name w _ ?_
 intro w1 hm1
 simp only [ZB,insVc,fillL,buildSK,Value.cells,Nat.reduceAdd,Nat.reduceLeDiff,Zae,Zab,Zai,Zak,Zaj,Zbe,Zbf,Zbd,Zbc,Zal,Zam,Zan,Zbh,Zaa,Pt.val,Pt.cells,str]
 have hm2:=hm1.alloc (.cells #[.bool true,.int .u64 0,.string name] 220)
 refine key_c ⟨#[113]⟩ [str name] _ m _ _ (hg.mod hm2 id) (.inr (pts_lit w1 [str name] _ rfl)) (by simp) (by decide) (by simp [Pt.good,str];exact hs) ?_
 intro w3 hm3
 simp only [ZB,endK,resK,packed,insVc,extK,ne_eq,Nat.reduceEqDiff,Za,Zag,Zah,Zad,Zaw]
 exact h w3 (hm2.trans hm3)
theorem counter_c (name:ByteArray) (m:Int) (w:World) (K:Value→World→Prop) (hg:Gl m w) (hs:name.size<4294967281)
  (h:∀w',Mod (fun _=>False) w w'→K (.tuple #[.string (counterK name).1,.int .i64 (counterK name).2]) w') :
  Ok prog 281 #[.string name] w K:=by
 refine F281.enter (args:=[.string name]) (by simp) ?_
 unfold c281 r281
 simp only [ZB,insVc,ne_eq,reduceCtorEq,Zac,Zae,Zab,Za]
 refine str_c name w _ ?_
 intro w1 hm1
 simp only [ZB,insVc,fillL,buildSK,Value.cells,Nat.reduceAdd,Nat.reduceLeDiff,Zae,Zab,Zai,Zak,Zaj,Zbe,Zbf,Zbd,Zbc,Zal,Zam,Zan,Zbh,Zaa,Pt.val,Pt.cells,str]
 have hm2:=hm1.alloc (.cells #[.bool true,.int .u64 0,.string name] 220)
 refine key_c ⟨#[99]⟩ [str name] _ m _ _ (hg.mod hm2 id) (.inr (pts_lit w1 [str name] _ rfl)) (by simp) (by decide) (by simp [Pt.good,str];exact hs) ?_
 intro w3 hm3
 simp only [ZB,endK,resK,packed,insVc,extK,ne_eq,Nat.reduceEqDiff,Za,Zag,Zah,Zad,Zaw]
 exact h w3 (hm2.trans hm3)
def afterN (s:ByteArray):Nat→ByteArray × Bool
 | 0=>(e0,false)
 | n+1=>if (s.data[n]?).getD 0≠255 then (s.extract 0 n ++ big ((s.data[n]?).getD 0+1).toNat 1,true) else afterN s n
def after (s:ByteArray):ByteArray × Bool:=afterN s s.size
theorem after_c (s:ByteArray) (w:World) (K:Value→World→Prop) (hs:s.size<2^40)
  (h:∀w',Mod (fun _=>False) w w'→K (.tuple #[.string (after s).1,.bool (after s).2]) w') :
  Ok prog 203 #[.string s] w K:=by
 refine F203.enter (args:=[.string s]) (by simp) ?_
 unfold c203 r203
 simp only [ZB,insVc,lenSK,ne_eq,reduceCtorEq,Zac,Za]
 refine vc_loop (fun m ρ ds w'=>ds=[]∧w'=w∧ρ 0 = .string s∧m≤s.size∧ρ 4 = .int .i64 m∧after s=afterN s m) s.size ?_ ?_
 ·exact ⟨rfl,rfl,by simp only [upd_other,initE_at,ne_eq,not_false_eq_true,reduceCtorEq,Zac,Za],Nat.le_refl _,by simp only [upd_same],rfl⟩
 ·rintro k ρ ds w' ⟨rfl,rfl,h0,hk,h4,ha⟩
  simp only [ZB,insVc,iopK,iopV,reduceCtorEq,h4]
  cases k with
  | zero =>
   simp only [ZB,endK,resK,packed,insVc,ne_eq,Nat.reduceEqDiff,Zad,Zaw,show ¬(((0:Nat):Int) > 0) by decide]
   rw [ha] at h
   exact h w' (Mod.refl _ _)
  | succ n =>
   have hw:IntKind.i64.wrap (((n+1:Nat):Int)-1)=(n:Int):=by rw [wrap_i64 _ (by omega)];omega
   obtain ⟨c,hc⟩:∃c,s.data[n]? = some c:=⟨_,Array.getElem?_eq_getElem (by have:n<s.size:=by omega
                                                                          exact this)⟩
   simp only [ZB,insVc,iopK,iopV,sidxK,ne_eq,Nat.reduceEqDiff,reduceCtorEq,Zbn,Zbj,show (((n+1:Nat):Int) > 0) by omega,h0,h4,hw,hc]
   refine ⟨by omega,condP_split ?_ ?_⟩
   ·intro hne
    have hne':c≠255:=by
     rintro rfl
     simp at hne
    have haf:after s=(s.extract 0 n ++ big (c+1).toNat 1,true):=by
     rw [ha];simp [afterN,hc,hne']
    simp only [vc_seq]
    refine draw_s (fun w''=>Mod (fun _=>False) w' w'') (by kernel_rfl) (by kernel_rfl) (by kernel_rfl) (Mod.refl _ _).drew ?_
    have hc1:IntKind.u8.wrap ((c.toNat:Int)+1)=((c+1).toNat:Int):=by
     rw [IntKind.wrap_u8,UInt8.toNat_add];rfl
    simp only [ZB,endK,resK,packed,insVc,iopK,iopV,sopK,sopV,boundOf,slSK,ne_eq,Nat.reduceEqDiff,reduceCtorEq,Zbn,Zbv,Zad,Zaw,Zbj,vcS_nil,vcS_cons,stepB_true,stepB_false,pureI,h0,h4,hw,hc1]
    refine ⟨by omega, ?_⟩
    refine look_call (.string (big (c+1).toNat 1)) (fun w1 hw1 => ?_) ?_
    ·simp only [upd_same,ev_tmp,Zae,Zab]
     exact wone_c _ w1 _ (UInt8.toNat_lt _) fun w2 hm=>⟨rfl,hw1.trans hm⟩
    have hmax:¬(((s.extract 0 n).size+(big (c+1).toNat 1).size:Nat):Int) > IntKind.i64.max:=by
     rw [big_size,ByteArray.size_extract]
     have:IntKind.i64.max=9223372036854775807:=rfl
     rw [this];omega
    simp only [loadV_some,Zaf,hmax]
    intro w1 hw1
    rw [haf] at h
    exact h w1 hw1
   ·intro he
    have he':c=255:=by
     have h1:(c.toNat:Int)=255:=by simpa using he
     exact UInt8.toNat_inj.1 (show c.toNat=255 by omega)
    subst he'
    simp only [ZB,insVc,iopK,iopV,ne_eq,Nat.reduceEqDiff,reduceCtorEq,h0,h4,hw]
    refine ⟨n,by omega,by omega,rfl, ?_⟩
    rw [ha];simp [afterN,hc]
def underK (sort:ByteArray) (l:List Pt):ByteArray × ByteArray :=
 if (keyL (str sort :: l) []).2≠0 then (e0,e0) else ((keyL (str sort :: l) []).1,(after (keyL (str sort :: l) []).1).1)
theorem keyL_size:∀(l:List Pt) (acc:List UInt8),acc.length≤255→(keyL l acc).1.size≤255:=by
 intro l
 induction l with
 | nil=>intro acc h;simpa [keyL,ByteArray.size] using h
 | cons p l ih =>
  intro acc h
  unfold keyL
  split
  ·simp [e0,ByteArray.size]
  ·exact ih _ (by omega)
theorem under_c (sort:ByteArray) (l:List Pt) (v:Value) (m:Int) (w:World) (K:Value→World→Prop) (hg:Gl m w) (hv:IsArg w v l) (hl:l.length<2^20) (hs:sort.size<4294967281) (hp:∀p∈l,p.good)
  (h:∀w',Mod (fun _=>False) w w'→K (.tuple #[.string (underK sort l).1,.string (underK sort l).2]) w') :
  Ok prog 141 #[.string sort,v] w K:=by
 refine F141.enter (args:=[.string sort,v]) (by simp) ?_
 unfold c141 r141
 simp only [ZB,insVc,ne_eq,Nat.reduceEqDiff,reduceCtorEq,Zac,Zae,Zab,Za,Zag]
 refine key_c sort l v m w _ hg hv hl hs hp ?_
 intro w1 hm1
 simp only [ZB,insVc,iopK,iopV,extK,ne_eq,Nat.reduceEqDiff,reduceCtorEq,Za,Zag,Zah]
 refine condP_split ?_ ?_
 ·intro he
  have he':(keyL (str sort :: l) []).2≠0:=by simpa using he
  simp only [ZB,endK,resK,packed,insVc,ne_eq,Nat.reduceEqDiff,Zad,Zaw]
  unfold underK at h
  rw [if_pos he'] at h
  exact h w1 hm1
 ·intro he
  have he':(keyL (str sort :: l) []).2=0:=by simpa using he
  simp only [ZB,insVc,ne_eq,Nat.reduceEqDiff,Zae,Zab]
  unfold underK at h
  rw [if_neg (by simpa using he')] at h
  refine after_c _ w1 _ (by have:=keyL_size (str sort :: l) [] (by simp);omega) ?_
  intro w2 hm2
  simp only [ZB,endK,resK,packed,insVc,extK,ne_eq,Nat.reduceEqDiff,Za,Zag,Zah,Zad,Zaw]
  exact h w2 (hm1.trans hm2)
structure Qu where
 name:ByteArray
 most:Nat
 ttl:Nat
 tries:Nat
 dead:ByteArray
def Qu.cells (q:Qu):List Value:=[.string q.name,.int .u32 q.most,.int .u64 q.ttl,.int .u32 q.tries,.string q.dead]
def Qu.val (q:Qu):Value:=.agg q.cells.toArray
def q0:Qu:=⟨e0,0,0,0,e0⟩
def Qu.good (q:Qu):Prop:=q.most<2^32∧q.ttl<2^64∧q.tries<2^32∧q.dead.size<2^60
def qput (q:Qu):ByteArray:=big q.most 4 ++ big q.ttl 8 ++ big q.tries 4 ++ textB q.dead
def qget (name:ByteArray) (r:Rd):Qu × Rd :=
 let a:=number r 4
 let b:=number a.2 8
 let c:=number b.2 4
 let d:=text c.2 32
 (⟨name,a.1%2^32,b.1,c.1%2^32,d.1⟩,d.2)
def ver (r:Rd):Rd:=if (number r 1).1%256≠1 then fail (number r 1).2 4 else (number r 1).2
def qread (name s:ByteArray):Qu × Int :=
 let x:=qget name (ver (s,0))
 if ende x.2≠0 then (q0,ende x.2) else (x.1,0)
def qbytes (q:Qu):ByteArray:=big 1 1 ++ qput q
theorem number_size (r:Rd) (n:Int):(number r n).2.1.size≤r.1.size:=take_size r n
theorem fail_size (r:Rd) (e:Int):(fail r e).1.size=r.1.size:=by unfold fail;split <;> rfl
theorem ver_size (r:Rd):(ver r).1.size≤r.1.size:=by
 unfold ver
 split
 ·rw [fail_size];exact number_size r 1
 ·exact number_size r 1
theorem textB_size (s:ByteArray):(textB s).size=4+s.size:=by simp [textB,big_size,ByteArray.size_append]
theorem imax:IntKind.i64.max=9223372036854775807:=rfl
theorem qput_c (q:Qu) (w:World) (K:Value→World→Prop) (hq:q.good) (h:∀w',Mod (fun _=>False) w w'→K (.string (qput q)) w') :
  Ok prog 222 #[q.val] w K:=by
 refine F222.enter (args:=[q.val]) (by simp) ?_
 unfold c222 r222
 simp only [ZB,insVc,Value.cells,Zac,Za,Qu.val,Qu.cells]
 have hb0:(w.alloc (.cells #[.string q.name,.int .u32 q.most,.int .u64 q.ttl,.int .u32 q.tries,.string q.dead] 121)).drew.heap[w.heap.size]? = some (.cells #[.string q.name,.int .u32 q.most,.int .u64 q.ttl,.int .u32 q.tries,.string q.dead] 121 (0,0)):=get_alloc_new _ _
 have hm0:Mod (fun _=>False) w (w.alloc (.cells #[.string q.name,.int .u32 q.most,.int .u64 q.ttl,.int .u32 q.tries,.string q.dead] 121)).drew:=((Mod.refl _ _).alloc _).drew
 refine draw_d (fun w'=>w'.heap[w.heap.size]? = some (.cells #[.string q.name,.int .u32 q.most,.int .u64 q.ttl,.int .u32 q.tries,.string q.dead] 121 (0,0))) (by kernel_rfl) (by kernel_rfl) (by kernel_rfl) (by kernel_rfl) hb0 ?_
 generalize (w.alloc (.cells #[.string q.name,.int .u32 q.most,.int .u64 q.ttl,.int .u32 q.tries,.string q.dead] 121)).drew=w1 at *
 simp only [ZB,endK,resK,packed,insVc,sopK,sopV,faddrK,ne_eq,Nat.reduceEqDiff,Zae,Zab,Zad,Zaa,Zaf,pureI,vcD_nil,vcD_cons,stepD_pure,stepD_load,stepD_step,kindI,loadI]
 refine loadD1 (b:=w.heap.size) (o:=1) (v:=.int .u32 q.most) rfl (fun w' hw'=>⟨_,_,_,hw',rfl⟩) ?_
 refine wfour_c q.most w1 _ hq.1 ?_
 intro w2 hm2
 refine ⟨hm2.keep hb0 id, ?_⟩
 refine loadD1 (b:=w.heap.size) (o:=2) (v:=.int .u64 q.ttl) rfl (fun w' hw'=>⟨_,_,_,hw',rfl⟩) ?_
 refine weight_c q.ttl w2 _ hq.2.1 ?_
 intro w3 hm3
 refine ⟨hm3.keep (hm2.keep hb0 id) id, ?_⟩
 have x1:¬(((big q.most 4).size+(big q.ttl 8).size:Nat):Int) > IntKind.i64.max:=by simp only [big_size,imax];omega
 simp only [loadV_some,Zaf,x1]
 refine loadD1 (b:=w.heap.size) (o:=3) (v:=.int .u32 q.tries) rfl (fun w' hw'=>⟨_,_,_,hw',rfl⟩) ?_
 refine wfour_c q.tries w3 _ hq.2.2.1 ?_
 intro w4 hm4
 refine ⟨hm4.keep (hm3.keep (hm2.keep hb0 id) id) id, ?_⟩
 have x2:¬(((big q.most 4 ++ big q.ttl 8).size+(big q.tries 4).size:Nat):Int) > IntKind.i64.max:=by simp only [Zbt,big_size,imax];omega
 simp only [loadV_some,Zaf,x2]
 refine loadD1 (b:=w.heap.size) (o:=4) (v:=.string q.dead) rfl (fun w' hw'=>⟨_,_,_,hw',rfl⟩) ?_
 refine wtext_c q.dead w4 _ (by have:=hq.2.2.2;omega) ?_
 intro w5 hm5
 refine ⟨hm5.keep (hm4.keep (hm3.keep (hm2.keep hb0 id) id) id) id, ?_⟩
 have x3:¬(((big q.most 4 ++ big q.ttl 8 ++ big q.tries 4).size+(textB q.dead).size:Nat):Int) > IntKind.i64.max:=by
  have:=hq.2.2.2
  simp only [Zbt,big_size,textB_size,imax];omega
 simp only [loadV_some,Zaf,x3]
 exact h w5 (((((hm0.trans hm2).trans hm3).trans hm4).trans hm5))
theorem qget_c (b nb:Nat) (name:ByteArray) (r:Rd) (w:World) (K:Value→World→Prop) (hb:IsRd w b r) (hn:w.heap[nb]? = some (.cells #[.string name] 9 (0,0))) (hne:nb≠b) (hs:(r.1.size:Int)<2^63)
  (h:∀w',Mod (fun k=>k=b) w w'→IsRd w' b (qget name r).2→K (qget name r).1.val w') :
  Ok prog 223 #[ptr b,ptr nb] w K:=by
 refine F223.enter (args:=[ptr b,ptr nb]) (by simp) ?_
 unfold c223 r223
 simp only [ZB,insVc,Value.cells]
 have hm0:Mod (fun k=>k=b) w (w.alloc (.cells #[.string ⟨#[]⟩,.int .u32 0,.int .u64 0,.int .u32 0,.string ⟨#[]⟩] 121)).drew:=((Mod.refl _ _).alloc _).drew
 have hn0:=hm0.keep hn hne
 have hbl:=lt_of_get hb
 have hb0:IsRd (w.alloc (.cells #[.string ⟨#[]⟩,.int .u32 0,.int .u64 0,.int .u32 0,.string ⟨#[]⟩] 121)).drew b r:=by
  unfold IsRd;rw [get_drew,get_alloc_old _ _ _ hbl];exact hb
 have hr0:(w.alloc (.cells #[.string ⟨#[]⟩,.int .u32 0,.int .u64 0,.int .u32 0,.string ⟨#[]⟩] 121)).drew.heap[w.heap.size]? = some (.cells #[.string ⟨#[]⟩,.int .u32 0,.int .u64 0,.int .u32 0,.string ⟨#[]⟩] 121 (0,0)):=get_alloc_new _ _
 refine draw_d (fun w'=>w'.heap[nb]? = some (.cells #[.string name] 9 (0,0))) (by kernel_rfl) (by kernel_rfl) (by kernel_rfl) (by kernel_rfl) hn0 ?_
 generalize (w.alloc (.cells #[.string ⟨#[]⟩,.int .u32 0,.int .u64 0,.int .u32 0,.string ⟨#[]⟩] 121)).drew=w1 at *
 have hne':w.heap.size≠b:=by omega
 have hnn:w.heap.size≠nb:=by have:=lt_of_get hn;omega
 simp only [ZB,endK,resK,resN,packed,insVc,storeNK,buildK,fillL,Value.cells,ne_eq,Nat.reduceEqDiff,Nat.reduceAdd,Nat.reduceLeDiff,reduceCtorEq,Zac,Zae,Zab,Za,Zai,Zak,Zaj,Zad,Zaa,Zaf,pureI,vcD_nil,vcD_cons,stepD_pure,stepD_load,stepD_step,kindI,loadI]
 refine loadD1 (b:=nb) (o:=0) (v:=.string name) rfl (fun w' hw'=>⟨_,_,_,hw',rfl⟩) ?_
 refine four_c b r w1 _ hb0 hs ?_
 intro w2 hm2 hb2
 refine ⟨hm2.keep hn0 hne, ?_⟩
 simp only [Nat.reduceAdd,Nat.reduceLeDiff,Zai,Zak,Zaj,Zbe,Zbf,Zbd,Zbc,Zal,Zam,Zan,and_true,and_self,Zaa,Nat.zero_add,Nat.add_zero]
 refine eight_c b _ w2 _ hb2 (by have:=number_size r 4;omega) ?_
 intro w3 hm3 hb3
 refine ⟨hm3.keep (hm2.keep hn0 hne) hne, ?_⟩
 simp only [Nat.reduceAdd,Nat.reduceLeDiff,Zai,Zak,Zaj,Zbe,Zbf,Zbd,Zbc,Zal,Zam,Zan,and_true,Zaa,Nat.zero_add,Nat.add_zero]
 refine four_c b _ w3 _ hb3 (by have:=number_size r 4;have:=number_size (number r 4).2 8;omega) ?_
 intro w4 hm4 hb4
 have hn4:=hm4.keep (hm3.keep (hm2.keep hn0 hne) hne) hne
 refine ⟨hn4, ?_⟩
 simp only [Nat.reduceAdd,Nat.reduceLeDiff,Zai,Zak,Zaj,Zbe,Zbf,Zbd,Zbc,Zal,Zam,Zan,and_true,Zaa,Nat.zero_add,Nat.add_zero]
 refine text_c b _ 32 w4 _ hb4 (by have:=number_size r 4;have:=number_size (number r 4).2 8;have:=number_size (number (number r 4).2 8).2 4;omega) (by omega) ?_
 intro w5 hm5 hb5
 refine ⟨hm5.keep hn4 hne, ?_⟩
 have hr5:=hm5.keep (hm4.keep (hm3.keep (hm2.keep hr0 hne') hne') hne') hne'
 have hl5:=lt_of_get hr5
 simp only [resNO_cells,storeNO_cells,setMany,isPlain,Nat.reduceAdd,Nat.reduceLeDiff,Zai,Zak,Zaj,Zbe,Zbf,Zbd,Zbc,Zal,Zam,Zan,true_and,and_self,Zaa,Nat.zero_add,Nat.add_zero,Bool.and_true,Zar,Zap,Zaq,Zao,Zas,Zat,Zau,Zav,Zax,Zbb,hr5,hl5]
 refine ⟨by rw [get_set_other _ _ _ _ (Ne.symm hnn)];exact hm5.keep hn4 hne, ?_⟩
 have hx:(qget name r).1.val = .agg #[.string name,.int .u32 ((number r 4).1%2^32:Nat),.int .u64 ((number (number r 4).2 8).1:Nat),.int .u32 ((number (number (number r 4).2 8).2 4).1%2^32:Nat),.string (text (number (number (number r 4).2 8).2 4).2 32).1]:=rfl
 rw [hx] at h
 refine h _ ?_ ?_
 ·exact (((((hm0.trans hm2).trans hm3).trans hm4).trans hm5)).set (.inl (Nat.le_refl _))
 ·unfold IsRd
  rw [get_set_other _ _ _ _ (Ne.symm hne')]
  exact hb5
def IsQ (w:World) (lo:Nat) (v:Value) (name:ByteArray):Prop :=
 ∃b1 b2 b3,v = .agg #[.func (.func 266) #[] #[ptr b1],.func (.func 267) #[] #[ptr b2]]∧lo≤b1∧lo≤b2∧lo≤b3 ∧
  w.heap[b1]? = some (.cells #[.func (.func 222) #[] #[]] 254 (0,0)) ∧
  w.heap[b2]? = some (.cells #[.func (.func 223) #[] #[ptr b3]] 255 (0,0)) ∧
  w.heap[b3]? = some (.cells #[.string name] 9 (0,0))
theorem IsQ.keep {w w':World} {lo:Nat} {v:Value} {name:ByteArray} {S:Nat→Prop} (h:IsQ w lo v name) (hm:Mod S w w') (hS:∀k,lo≤k→k<w.heap.size→¬S k):IsQ w' lo v name:=by
 obtain ⟨b1,b2,b3,e,l1,l2,l3,h1,h2,h3⟩:=h
 exact ⟨b1,b2,b3,e,l1,l2,l3,hm.keep h1 (hS _ l1 (lt_of_get h1)),hm.keep h2 (hS _ l2 (lt_of_get h2)),hm.keep h3 (hS _ l3 (lt_of_get h3))⟩
theorem queues_c (name:ByteArray) (w:World) (K:Value→World→Prop) (h:∀w' v,Mod (fun _=>False) w w'→IsQ w' w.heap.size v name→K v w') :
  Ok prog 163 #[.string name] w K:=by
 refine F163.enter (args:=[.string name]) (by simp) ?_
 unfold c163 r163
 simp only [ZB,insVc,Value.cells,ne_eq,Nat.reduceEqDiff,Zac,Zae,Zab,Za]
 refine F221.enter (args:=[_,_]) (by simp) ?_
 unfold c221 r221
 simp only [ZB,endK,resK,resN,packed,insVc,storeNK,setMany,buildK,fillL,isPlain,Value.cells,ne_eq,Nat.reduceEqDiff,Nat.reduceAdd,Nat.reduceLT,Nat.reduceLeDiff,reduceCtorEq,Zac,Zae,Zab,Za,Zag,Zai,Zak,Zaj,Zbe,Zbf,Zbd,Zbc,Zal,Zam,Zan,Zad,Zbh,Zaa,Zaf,Zar,Zap,Zaq,Zao,Zas,Zat,Zau,Zav,Zax,Zbb,Zay,get_alloc,get_set,Zb,Nat.reduceAdd,Zbg,Zba,Nat.reduceEqDiff,Zbr,Nat.reduceLT,Zaz]
 refine h _ _ ?_ ⟨w.heap.size+2,w.heap.size+3,w.heap.size,rfl, ?_, ?_, ?_, ?_, ?_, ?_⟩
 ·exact (((((((Mod.refl _ _).alloc _).alloc _).alloc _).alloc _).alloc _).set (.inl (by omega))).set (.inl (by omega))
 ·omega
 ·omega
 ·exact Nat.le_refl _
 ·simp only [Nat.reduceEqDiff,Nat.reduceAdd,Nat.reduceLT,reduceCtorEq,and_true,Zaa,Zaf,size_set,size_alloc,Zay,get_alloc,get_set,size_alloc,size_set,Zb,Nat.reduceAdd,Zbg,Zba,Nat.reduceEqDiff,Zbr,Nat.reduceLT]
 ·simp only [Nat.reduceEqDiff,Nat.reduceAdd,Nat.reduceLT,reduceCtorEq,and_true,Zaa,Zaf,size_set,size_alloc,Zay,get_alloc,get_set,size_alloc,size_set,Zb,Nat.reduceAdd,Zbg,Zba,Nat.reduceEqDiff,Zbr,Nat.reduceLT]
 ·simp only [Nat.reduceAdd,Nat.reduceLT,reduceCtorEq,and_true,Zaa,Zaf,size_set,size_alloc,Zay,get_alloc,get_set,size_alloc,size_set,Zb,Nat.reduceAdd,Zbi,Zbr,Nat.reduceLT,Zaz]
theorem qbytesf_c (q:Qu) (bb:Nat) (w:World) (K:Value→World→Prop) (hq:q.good) (hb:w.heap[bb]? = some (.cells #[.func (.func 222) #[] #[]] 254 (0,0)))
  (h:∀w',Mod (fun _=>False) w w'→K (.string (qbytes q)) w') :
  Ok prog 266 #[q.val,ptr bb] w K:=by
 refine F266.enter (args:=[q.val,ptr bb]) (by simp) ?_
 unfold c266 r266
 simp only [ZB,insVc,Value.cells,Zac,Za,Qu.val,Qu.cells]
 have hb0:(w.alloc (.cells #[.string q.name,.int .u32 q.most,.int .u64 q.ttl,.int .u32 q.tries,.string q.dead] 121)).drew.heap[w.heap.size]? = some (.cells #[.string q.name,.int .u32 q.most,.int .u64 q.ttl,.int .u32 q.tries,.string q.dead] 121 (0,0)):=get_alloc_new _ _
 have hm0:Mod (fun _=>False) w (w.alloc (.cells #[.string q.name,.int .u32 q.most,.int .u64 q.ttl,.int .u32 q.tries,.string q.dead] 121)).drew:=((Mod.refl _ _).alloc _).drew
 have hbb:=hm0.keep hb id
 refine draw_d (fun w'=>w'.heap[w.heap.size]? = some (.cells #[.string q.name,.int .u32 q.most,.int .u64 q.ttl,.int .u32 q.tries,.string q.dead] 121 (0,0))∧w'.heap[bb]? = some (.cells #[.func (.func 222) #[] #[]] 254 (0,0))) (by kernel_rfl) (by kernel_rfl) (by kernel_rfl) (by kernel_rfl) ⟨hb0,hbb⟩ ?_
 generalize (w.alloc (.cells #[.string q.name,.int .u32 q.most,.int .u64 q.ttl,.int .u32 q.tries,.string q.dead] 121)).drew=w1 at *
 simp only [ZB,endK,resK,packed,insVc,sopK,sopV,callvK,ne_eq,Nat.reduceEqDiff,Zae,Zab,Zad,Zaa,Zaf,pureI,vcD_nil,vcD_cons,stepD_pure,stepD_load,stepD_step,kindI,loadI]
 refine wone_c 1 w1 _ (by decide) ?_
 intro w2 hm2
 refine ⟨⟨hm2.keep hb0 id,hm2.keep hbb id⟩, ?_⟩
 refine loadD1 (b:=bb) (o:=0) (v:=.func (.func 222) #[] #[]) rfl (fun w' hw'=>⟨_,_,_,hw'.2,rfl⟩) ?_
 refine loadDN (b:=w.heap.size) (o:=0) (v:=q.val) rfl (fun w' hw'=>⟨_,_,_,hw'.1,by simp,rfl⟩) ?_
 simp only [Zad,Zbu]
 refine qput_c q w2 _ hq ?_
 intro w3 hm3
 refine ⟨⟨hm3.keep (hm2.keep hb0 id) id,hm3.keep (hm2.keep hbb id) id⟩, ?_⟩
 have x1:¬(((big 1 1).size+(qput q).size:Nat):Int) > IntKind.i64.max:=by
  have:=hq.2.2.2
  simp only [qput,Zbt,big_size,textB_size,imax];omega
 simp only [loadV_some,Zaf,x1]
 exact h w3 ((hm0.trans hm2).trans hm3)
theorem qgetf_c (b gb nb:Nat) (name:ByteArray) (r:Rd) (w:World) (K:Value→World→Prop) (hb:IsRd w b r) (hg:w.heap[gb]? = some (.cells #[.func (.func 223) #[] #[ptr nb]] 255 (0,0)))
  (hn:w.heap[nb]? = some (.cells #[.string name] 9 (0,0))) (hne:nb≠b) (hge:gb≠b) (hs:(r.1.size:Int)<2^63)
  (h:∀w',Mod (fun k=>k=b) w w'→IsRd w' b (qget name (ver r)).2→K (qget name (ver r)).1.val w') :
  Ok prog 267 #[ptr b,ptr gb] w K:=by
 refine F267.enter (args:=[ptr b,ptr gb]) (by simp) ?_
 unfold c267 r267
 simp only [ZB,insVc,Value.cells,ne_eq,reduceCtorEq,Zac,Zae,Zab,Za]
 have hm0:Mod (fun k=>k=b) w (w.alloc (.cells #[.string ⟨#[]⟩,.int .u32 0,.int .u64 0,.int .u32 0,.string ⟨#[]⟩] 121)):=(Mod.refl _ _).alloc _
 have hn0:=hm0.keep hn hne
 have hg0:=hm0.keep hg hge
 have hbl:=lt_of_get hb
 have hb0:IsRd (w.alloc (.cells #[.string ⟨#[]⟩,.int .u32 0,.int .u64 0,.int .u32 0,.string ⟨#[]⟩] 121)) b r:=by
  unfold IsRd;rw [get_alloc_old _ _ _ hbl];exact hb
 have hr0:(w.alloc (.cells #[.string ⟨#[]⟩,.int .u32 0,.int .u64 0,.int .u32 0,.string ⟨#[]⟩] 121)).heap[w.heap.size]? = some (.cells #[.string ⟨#[]⟩,.int .u32 0,.int .u64 0,.int .u32 0,.string ⟨#[]⟩] 121 (0,0)):=get_alloc_new _ _
 generalize (w.alloc (.cells #[.string ⟨#[]⟩,.int .u32 0,.int .u64 0,.int .u32 0,.string ⟨#[]⟩] 121))=w1 at *
 have hne':w.heap.size≠b:=by omega
 refine one_c b r w1 _ hb0 hs ?_
 intro w2 hm2 hb2
 simp only [ZB,insVc,iopK,iopV,reduceCtorEq]
 have fin:∀w3,Mod (fun k=>k=b) w2 w3→IsRd w3 b (ver r)→∀G:Value→World→Prop,(∀w4,Mod (fun k=>k=b) w3 w4→IsRd w4 b (qget name (ver r)).2→G (qget name (ver r)).1.val w4)→Ok prog 223 #[ptr b,ptr nb] w3 G:=by
  intro w3 hm3 hb3 G hG
  exact qget_c b nb name (ver r) w3 G hb3 (hm3.keep (hm2.keep hn0 hne) hne) hne (by have:=ver_size r;omega) hG
 refine condP_split ?_ ?_
 ·intro hc
  simp only [ZB,insVc,ne_eq,reduceCtorEq,Zac,Zae,Zab,Za]
  refine fail_c b _ 4 w2 _ hb2 ?_
  intro w3 v hm3 hb3
  have hv:ver r=fail (number r 1).2 4:=by
   unfold ver;rw [if_pos];simp at hc;omega
  simp only [ZB,insVc,load1K,callvK,ne_eq,Nat.reduceEqDiff,reduceCtorEq,Zac,Zae,Zab,Za,Zag,Zah,Zad,Zaw,hm3.keep (hm2.keep hg0 hge) hge]
  refine fin w3 hm3 (hv ▸ hb3) _ ?_
  intro w4 hm4 hb4
  have hr4:=hm4.keep (hm3.keep (hm2.keep hr0 hne') hne') hne'
  simp only [ZB,endK,resK,resN,packed,insVc,storeNK,setMany,isPlain,ne_eq,Nat.reduceEqDiff,Nat.reduceAdd,Nat.reduceLeDiff,Zai,Zak,Zaj,Zal,Zam,Zan,Zad,Zar,Zap,Zaq,Zao,Zas,Zat,Zau,Zav,Zax,Zbb,hr4,lt_of_get hr4,Qu.val,Qu.cells]
  refine h _ ((((hm0.trans hm2).trans hm3).trans hm4).set (.inl (Nat.le_refl _))) ?_
  unfold IsRd
  rw [get_set_other _ _ _ _ (Ne.symm hne')]
  exact hb4
 ·intro hc
  simp only [ZB,insVc,load1K,ne_eq,Nat.reduceEqDiff,Zac,Za,Zag]
  have hv:ver r=(number r 1).2:=by
   unfold ver;rw [if_neg];simp at hc;omega
  simp only [ZB,insVc,callvK,ne_eq,Nat.reduceEqDiff,reduceCtorEq,Zac,Zae,Zab,Za,Zah,Zad,Zaw,hm2.keep hg0 hge]
  refine fin w2 (Mod.refl _ _) (hv ▸ hb2) _ ?_
  intro w4 hm4 hb4
  have hr4:=hm4.keep (hm2.keep hr0 hne') hne'
  simp only [ZB,endK,resK,resN,packed,insVc,storeNK,setMany,isPlain,ne_eq,Nat.reduceEqDiff,Nat.reduceAdd,Nat.reduceLeDiff,Zai,Zak,Zaj,Zal,Zam,Zan,Zad,Zar,Zap,Zaq,Zao,Zas,Zat,Zau,Zav,Zax,Zbb,hr4,lt_of_get hr4,Qu.val,Qu.cells]
  refine h _ (((hm0.trans hm2).trans hm4).set (.inl (Nat.le_refl _))) ?_
  unfold IsRd
  rw [get_set_other _ _ _ _ (Ne.symm hne')]
  exact hb4
end Go.Oct
