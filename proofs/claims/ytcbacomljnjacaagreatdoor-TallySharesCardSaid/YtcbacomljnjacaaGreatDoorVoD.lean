import Derived.Test.YtcbacomljnjacaaGreatDoorVoB
import Derived.Test.YtcbacomljnjacaaGreatDoorTryzShelf
import Derived.Shelf.Strings.Builder1
import Derived.Test.YtcbacomljnjacaaGreatDoorVoA
import Derived.Lib.Replace
import Derived.Lib.SplitLaws
set_option linter.unusedSimpArgs false
set_option linter.unusedVariables false
set_option linter.unusedSectionVars false
set_option linter.unnecessarySimpa false
namespace Go.Proofs
open Go.Shelf
def Tryz.lays167_ren : Go.Shelf.Ren:=⟨fun | 167=>304 | 240=>302 | 276=>312 | n=>n,Tryz.lays154_ren.t,fun | n=>n⟩
theorem Tryz.lays167 : Go.Proofs.Lays.n167 Tryz.prog Tryz.lays167_ren:={
  mixed:=by kernel_rfl
  f167:=Tryz.func304.trans (congrArg some (by kernel_rfl))
  f240:=Tryz.func302.trans (congrArg some (by kernel_rfl))
  f276:=Tryz.func312.trans (congrArg some (by kernel_rfl))
  t0:=Tryz.underlying0
  a0:=Tryz.isAgg0
  z0:=Tryz.sizeOf0
  v0:=Tryz.zeroValue0
  t4:=Tryz.underlying4
  a4:=Tryz.isAgg4
  z4:=Tryz.sizeOf4
  v4:=Tryz.zeroValue4
  t5:=Tryz.underlying5
  a5:=Tryz.isAgg5
  z5:=Tryz.sizeOf5
  v5:=Tryz.zeroValue5
  t9:=Tryz.underlying9
  a9:=Tryz.isAgg9
  z9:=Tryz.sizeOf9
  v9:=Tryz.zeroValue9
  t20:=Tryz.underlying20
  a20:=Tryz.isAgg20
  z20:=Tryz.sizeOf20
  v20:=Tryz.zeroValue20
  t37:=Tryz.underlying319
  a37:=Tryz.isAgg319
  z37:=Tryz.sizeOf319
  v37:=Tryz.zeroValue319
  t70:=Tryz.underlying375
  a70:=Tryz.isAgg375
  z70:=Tryz.sizeOf375
  v70:=Tryz.zeroValue375
  t72:=Tryz.underlying377
  a72:=Tryz.isAgg377
  z72:=Tryz.sizeOf377
  v72:=Tryz.zeroValue377
  t75:=Tryz.underlying132
  a75:=Tryz.isAgg132
  z75:=Tryz.sizeOf132
  v75:=Tryz.zeroValue132
  t164:=Tryz.underlying397
  a164:=Tryz.isAgg397
  z164:=Tryz.sizeOf397
  v164:=Tryz.zeroValue397 }
theorem Tryz.Builder_Extra_167 : Builder.Extra Tryz.prog Tryz.lays167_ren:={
  sizeBuilder:=by kernel_rfl
  liesBuilder:=by kernel_rfl
  t5:=Tryz.underlying5
  a5:=Tryz.isAgg5
  z5:=Tryz.sizeOf5
  v5:=Tryz.zeroValue5
  infoByte:=by kernel_rfl
  cellsByte:=by kernel_rfl
  sizeByte:=by kernel_rfl
  neB5:=by decide }
end Go.Proofs
namespace Go.Oct
open Go Go.Vc Go.VrA
set_option maxRecDepth 100000
def IsB (w : World) (B b : Nat) (l : List UInt8) : Prop:=Lib.IsBuilder 377 5 B b (Lib.byteCells l) w
theorem mod_of_below {B : Nat} {w w' : World} (h : Go.RowKit.Below B w w') : Mod (fun k=>B≤k) w w' :=
  ⟨h.os,h.tape,h.output,h.size,fun k _ hs=>h.block k (by omega)⟩
theorem isB_fresh (w : World) (b : Nat) (h : w.heap[b]? = some (.cells #[.pointer none,.slice none 0 0] 377 (0,0))) : IsB w b b [] :=
  .inl ⟨Nat.le_refl _,_,h,World.ownsRow_nil w b _ 1,by simp [Value.ownBlock]⟩
theorem wstr_c (B b : Nat) (l : List UInt8) (s : ByteArray) (w : World) (K : Value→World→Prop) (hb : IsB w B b l) (hlen : l.length + s.size≤140737488355328) (hB : B≤w.heap.size)
    (h : ∀ w',Mod (fun k=>B≤k) w w'→IsB w' B b (l ++ s.data.toList)→K (.tuple #[.int .i64 s.size,.nilIface]) w') :
    Ok Proofs.Tryz.prog 287 #[ptr b,.string s] w K:=by
  refine ok_of_calls (by kernel_rfl) (Proofs.Any.Builder_WriteString { Proofs.Tryz.lays154 with } Proofs.Tryz.Builder_Extra_154 B b _ s w hb (by rw [Lib.byteCells_length]; exact hlen) hB) ?_
  rintro e w' ⟨rfl,hb',hlo⟩
  refine ⟨_,rfl,h w' (mod_of_below hlo) (.inr ?_)⟩
  rw [Lib.byteCells_append]
  exact hb'
theorem wbyte_c (B b : Nat) (l : List UInt8) (c : UInt8) (w : World) (K : Value→World→Prop) (hb : IsB w B b l) (hlen : l.length + 1≤140737488355328) (hB : B≤w.heap.size)
    (h : ∀ w',Mod (fun k=>B≤k) w w'→IsB w' B b (l ++ [c])→K .nilIface w') :
    Ok Proofs.Tryz.prog 304 #[ptr b,.int .u8 (c.toNat : Int)] w K:=by
  refine ok_of_calls (by kernel_rfl) (Proofs.Any.Builder_WriteByte Proofs.Tryz.lays167 Proofs.Tryz.Builder_Extra_167 B b _ (c.toNat : Int) w hb (by rw [Lib.byteCells_length]; exact hlen) hB) ?_
  rintro e w' ⟨rfl,hb',hlo⟩
  refine ⟨_,rfl,h w' (mod_of_below hlo) (.inr ?_)⟩
  rw [Lib.byteCells_append]
  exact hb'
theorem bstring_c (B b : Nat) (l : List UInt8) (w : World) (K : Value→World→Prop) (hb : IsB w B b l) (hB : B≤w.heap.size)
    (h : ∀ w',Mod (fun k=>B≤k) w w'→K (.string ⟨l.toArray⟩) w') :
    Ok Proofs.Tryz.prog 290 #[ptr b] w K:=by
  refine ok_of_calls (by kernel_rfl) (Proofs.Tryz.Builder_String_any B b l w hb hB) ?_
  rintro e w' ⟨rfl,hlo⟩
  exact ⟨_,rfl,h w' (mod_of_below hlo)⟩
theorem blen_c (B b : Nat) (l : List UInt8) (w : World) (K : Value→World→Prop) (hb : IsB w B b l) (h : K (.int .i64 l.length) w) :
    Ok Proofs.Tryz.prog 289 #[ptr b] w K:=by
  refine ok_of_calls (by kernel_rfl) (Proofs.Tryz.Builder_Len B b _ w hb) ?_
  rintro e w' ⟨rfl,rfl⟩
  rw [Lib.byteCells_length]
  exact ⟨_,rfl,h⟩
end Go.Oct
namespace Go.Oct
open Go
def esc (l : List UInt8) : List UInt8:=l.flatMap fun c=>if c = 0 then [0,255] else [c]
theorem index_zero_cons (b : UInt8) (l : List UInt8) : Lib.index (b :: l) [0] = if b = 0 then 0 else if Lib.index l [0] == -1 then -1 else Lib.index l [0] + 1:=by
  rw [Lib.index]
  by_cases h : b = 0
  · subst h; simp
  · have : ([0] : List UInt8).isPrefixOf (b :: l) = false:=by
      simp [List.isPrefixOf]; exact fun e=>h e.symm
    rw [this]; simp [h]
theorem repl_esc : ∀ s : List UInt8,Lib.replaceK [0] [0,255] (Lib.count s [0]) s = esc s:=by
  intro s
  induction s with
  | nil=>rfl
  | cons c l ih =>
    by_cases h : c = 0
    · subst h
      rw [Lib.count_cons_eq,Nat.add_comm,Lib.replaceK_hit _ _ _ _ 0 (by rw [index_zero_cons]; simp)]
      simp [esc,ih]
    · rw [Lib.count_cons_ne _ _ _ h]
      have e : esc (c :: l) = c :: esc l:=by simp [esc,h]
      rw [e,← ih]
      generalize hk : Lib.count l [0] = k
      cases k with
      | zero=>rfl
      | succ k =>
        obtain ⟨i,hi⟩:=Lib.index_of_count (s:=l) (old:=[0]) (by omega)
        have hi' : Lib.index (c :: l) [0] = ((i + 1 : Nat) : Int):=by
          rw [index_zero_cons,if_neg h,hi]
          have : ((i : Int) == -1) = false:=by rw [beq_eq_false_iff_ne]; omega
          simp [this]
        rw [Lib.replaceK_hit _ _ _ _ _ hi',Lib.replaceK_hit _ _ _ _ _ hi]
        simp []
theorem replaceAll_esc (s : List UInt8) : Lib.replaceAll s [0] [0,255] = esc s:=by
  unfold Lib.replaceAll Lib.replace Lib.replaceNum
  rw [if_neg (by decide),if_pos (by left; decide)]
  exact repl_esc s
theorem esc_length (l : List UInt8) : (esc l).length≤2 * l.length:=by
  induction l with
  | nil=>simp [esc]
  | cons c l ih =>
    have : (esc (c :: l)).length = (if c = 0 then [0,255] else [c]).length + (esc l).length:=by simp [esc]
    rw [this]
    by_cases h : c = 0
    · simp [h]; omega
    · simp [h]; omega
structure Pt where
  t : Bool
  n : Nat
  s : ByteArray
def Pt.cells (p : Pt) : List Value:=[.bool p.t,.int .u64 p.n,.string p.s]
def Pt.val (p : Pt) : Value:=.agg p.cells.toArray
def num' (n : Nat) : Pt:=⟨false,n,e0⟩
def str (s : ByteArray) : Pt:=⟨true,0,s⟩
def Pt.good (p : Pt) : Prop:=p.n < 2 ^ 64∧p.s.size < 4294967281
def Pt.bytes (p : Pt) : List UInt8:=if p.t then 2 :: (esc p.s.data.toList ++ [0,0]) else 1 :: (big p.n 8).data.toList
def keyL : List Pt→List UInt8→ByteArray × Int
  | [],acc=>(⟨acc.toArray⟩,0)
  | p :: l,acc=>if (acc ++ p.bytes).length > 255 then (e0,5) else keyL l (acc ++ p.bytes)
end Go.Oct
namespace Go.Oct
open Go Go.Vc Go.VrA
set_option maxRecDepth 100000
def Gl (m : Int) (w : World) : Prop:=w.cell? ⟨3,0,none⟩ = some (.int .i64 m)
theorem Gl.mod {m : Int} {S : Nat→Prop} {w w' : World} (h : Gl m w) (hm : Mod S w w') (hs : ¬ S 3) : Gl m w':=by
  unfold Gl at *
  rw [World.cell?_of_block (hm.get 3 (World.block_lt_of_cell? w _ h) hs)]
  exact h
theorem Gl.lt {m : Int} {w : World} (h : Gl m w) : 3 < w.heap.size:=World.block_lt_of_cell? w _ h
theorem IsB.keep {w w' : World} {B b : Nat} {l : List UInt8} (h : IsB w B b l) (hm : Mod (fun _=>False) w w') : IsB w' B b l:=by
  have hg : w.grownBy w' none:=⟨hm.os,hm.tape,hm.output,hm.size,fun k hk _=>hm.get k hk id⟩
  rcases h with ⟨h1,v,h2,h3,h4⟩ | ⟨h1,v,h2,h3,h4⟩
  · exact .inl ⟨h1,v,hm.keep h2 id,h3.kept hg (by cases hv : v.ownBlock <;> simp),h4⟩
  · exact .inr ⟨h1,v,hm.keep h2 id,h3.kept hg (by cases hv : v.ownBlock <;> simp),h4⟩
theorem str_c (s : ByteArray) (w : World) (K : Value→World→Prop) (h : ∀ w',Mod (fun _=>False) w w'→K (str s).val w') :
    Ok Proofs.Tryz.prog 220 #[.string s] w K:=by
  refine F220.enter (args:=[.string s]) (by simp) ?_
  unfold c220 r220
  simp only [ZB,endK,resK,resN,packed,insVc,storeNK,setMany,buildK,fillL,isPlain,Value.cells,ne_eq,Nat.reduceEqDiff,Nat.reduceAdd,Nat.reduceLeDiff,reduceCtorEq,Zaf,Za,Zai,Zaj,Zak,Zbd,Zbe,Zbc,Zbb,Zal,Zam,Zan,Zaa,Zbh,Zab,Zaq,Zap,Zar,Zao,Zas,Zat,Zau,Zaw,Zax,Zbk,Zbf,Zb,Zbk]
  exact h _ (((Mod.refl _ _).alloc _).set (.inl (Nat.le_refl _)))
theorem num_c (n : Nat) (w : World) (K : Value→World→Prop) (h : ∀ w',Mod (fun _=>False) w w'→K (num' n).val w') :
    Ok Proofs.Tryz.prog 142 #[.int .u64 n] w K:=by
  refine F142.enter (args:=[.int .u64 n]) (by simp) ?_
  unfold c142 r142
  simp only [ZB,endK,resK,resN,packed,insVc,storeNK,setMany,buildK,fillL,isPlain,Value.cells,ne_eq,Nat.reduceEqDiff,Nat.reduceAdd,Nat.reduceLeDiff,reduceCtorEq,Zaf,Za,Zai,Zaj,Zak,Zbd,Zbe,Zbc,Zbb,Zal,Zam,Zan,Zaa,Zbh,Zab,Zaq,Zap,Zar,Zao,Zas,Zat,Zau,Zaw,Zax,Zbk,Zbf,Zb,Zbk]
  exact h _ (((Mod.refl _ _).alloc _).set (.inl (Nat.le_refl _)))
theorem replAll_c (s : ByteArray) (m : Int) (w : World) (K : Value→World→Prop) (hg : Gl m w) (hs : s.size < 4294967281)
    (h : ∀ w',Mod (fun _=>False) w w'→K (.string ⟨(esc s.data.toList).toArray⟩) w') :
    Ok Proofs.Tryz.prog 303 #[.string s,.string ⟨#[0]⟩,.string ⟨#[0,255]⟩] w K:=by
  have hc : Lib.countB s ⟨#[0]⟩≤s.size + 1:=Lib.count_le _ _
  refine ok_of_calls (by kernel_rfl) (Proofs.Tryz.strings_ReplaceAll s ⟨#[0]⟩ ⟨#[0,255]⟩ m w hs hg (by decide) (by
    have : (⟨#[0,255]⟩ : ByteArray).size = 2:=rfl
    rw [this]; omega)) ?_
  rintro e w' ⟨rfl,hlo⟩
  refine ⟨_,rfl, ?_⟩
  have he : Lib.replaceAll s.data.toList (⟨#[0]⟩ : ByteArray).data.toList (⟨#[0,255]⟩ : ByteArray).data.toList = esc s.data.toList:=replaceAll_esc _
  rw [he]
  exact h w' (Mod.of_below hlo)
theorem bytes_c (p : Pt) (m : Int) (w : World) (K : Value→World→Prop) (hg : Gl m w) (hp : p.good)
    (h : ∀ w',Mod (fun _=>False) w w'→K (.string ⟨p.bytes.toArray⟩) w') :
    Ok Proofs.Tryz.prog 288 #[p.val] w K:=by
  refine F288.enter (args:=[p.val]) (by simp) ?_
  unfold c288 r288
  simp only [ZB,insVc,load1K,notK,faddrK,Value.cells,ne_eq,Nat.reduceEqDiff,Zaf,Za,Zah,Zbk,Pt.val,Pt.cells,Zbk]
  have step : ∀ {w' w''},(Mod (fun _=>False) w w'∧w'.heap[w.heap.size]? = some (.cells #[.bool p.t,.int .u64 p.n,.string p.s] 220 (0,0)))→Mod (fun _=>False) w' w''→(Mod (fun _=>False) w w''∧w''.heap[w.heap.size]? = some (.cells #[.bool p.t,.int .u64 p.n,.string p.s] 220 (0,0))):=fun h hm=>⟨h.1.trans hm,hm.keep h.2 id⟩
  have hC0 : ∀ w',w' = w.alloc (.cells #[.bool p.t,.int .u64 p.n,.string p.s] 220)→(Mod (fun _=>False) w w'.drew∧w'.drew.heap[w.heap.size]? = some (.cells #[.bool p.t,.int .u64 p.n,.string p.s] 220 (0,0))):=by
    rintro w' rfl
    exact ⟨((Mod.refl _ _).alloc _).drew,get_alloc_new _ _⟩
  refine condP_split ?_ ?_
  · intro ht
    have ht' : p.t = false:=by simpa using ht
    simp only [ZB]
    refine draw_s (fun w'=>Mod (fun _=>False) w w'∧w'.heap[w.heap.size]? = some (.cells #[.bool p.t,.int .u64 p.n,.string p.s] 220 (0,0))) (by kernel_rfl) (by kernel_rfl) (by kernel_rfl) (hC0 _ rfl) ?_
    simp only [ZB,endK,resK,packed,insVc,sopK,sopV,faddrK,ne_eq,Nat.reduceEqDiff,Zaa,vcS_nil,vcS_cons,stepB_true,stepB_false,pureI]
    refine look_call (.string (big 1 1)) (fun w' hw' => ?_) ?_
    · exact wone_c 1 w' _ (by decide) fun w'' hm=>⟨rfl,step hw' hm⟩
    refine look_load (b:=w.heap.size) (o:=1) (v:=.int .u64 p.n) (by simp only [ZB]) (fun w' hw'=>⟨_,_,_,hw'.2,rfl⟩) ?_
    refine look_call (.string (big p.n 8)) (fun w' hw' => ?_) ?_
    · exact weight_c p.n w' _ hp.1 fun w'' hm=>⟨rfl,step hw' hm⟩
    have hmax : ¬ (((big 1 1).size + (big p.n 8).size : Nat) : Int) > IntKind.i64.max:=by
      rw [big_size,big_size]; decide
    simp only [loadV_some,Zae,hmax]
    intro w' hw'
    have e : p.bytes.toArray = (big 1 1 ++ big p.n 8).data:=by
      simp [Pt.bytes,ht',ByteArray.data_append,big]
    rw [e] at h
    exact h w' hw'.1
  · intro ht
    have ht' : p.t = true:=by simpa using ht
    simp only [ZB]
    refine draw_s (fun w'=>Mod (fun _=>False) w w'∧w'.heap[w.heap.size]? = some (.cells #[.bool p.t,.int .u64 p.n,.string p.s] 220 (0,0))) (by kernel_rfl) (by kernel_rfl) (by kernel_rfl) (hC0 _ rfl) ?_
    simp only [ZB,endK,resK,packed,insVc,sopK,sopV,faddrK,ne_eq,Nat.reduceEqDiff,Zaa,vcS_nil,vcS_cons,stepB_true,stepB_false,pureI]
    refine look_call (.string (big 2 1)) (fun w' hw' => ?_) ?_
    · exact wone_c 2 w' _ (by decide) fun w'' hm=>⟨rfl,step hw' hm⟩
    refine look_load (b:=w.heap.size) (o:=2) (v:=.string p.s) (by simp only [ZB]) (fun w' hw'=>⟨_,_,_,hw'.2,rfl⟩) ?_
    refine look_call (.string ⟨(esc p.s.data.toList).toArray⟩) (fun w' hw' => ?_) ?_
    · exact replAll_c p.s m w' _ (hg.mod hw'.1 id) hp.2 fun w'' hm=>⟨rfl,step hw' hm⟩
    have hes:=esc_length p.s.data.toList
    have hsz : p.s.data.toList.length = p.s.size:=by rw [Array.length_toList]; rfl
    have h1 : (⟨(esc p.s.data.toList).toArray⟩ : ByteArray).size = (esc p.s.data.toList).length:=by simp [ByteArray.size]
    have hmx : IntKind.i64.max = 9223372036854775807:=rfl
    have hp2:=hp.2
    have hmax : ¬ (((big 2 1).size + (⟨(esc p.s.data.toList).toArray⟩ : ByteArray).size : Nat) : Int) > IntKind.i64.max:=by
      rw [big_size,h1,hmx]; omega
    have hmax2 : ¬ (((big 2 1 ++ (⟨(esc p.s.data.toList).toArray⟩ : ByteArray)).size + (⟨#[0,0]⟩ : ByteArray).size : Nat) : Int) > IntKind.i64.max:=by
      rw [ByteArray.size_append,big_size,h1,hmx,show (⟨#[0,0]⟩ : ByteArray).size = 2 from rfl]; omega
    simp only [loadV_some,Zae,hmax,hmax2]
    intro w' hw'
    have e : p.bytes.toArray = (big 2 1 ++ (⟨(esc p.s.data.toList).toArray⟩ : ByteArray) ++ ⟨#[0,0]⟩).data:=by
      simp [Pt.bytes,ht',ByteArray.data_append,big]
    rw [e] at h
    exact h w' hw'.1
def IsPts (w : World) (v : Value) (l : List Pt) : Prop :=
  ∃ g cap cur,v = .slice (some ⟨g,0,none⟩) l.length cap∧w.heap[g]? = some (.cells cur 220 (0,0))∧cur.toList.take (l.length * 3) = l.flatMap Pt.cells
theorem flat_drop : ∀ (l : List Pt) (j : Nat),(l.flatMap Pt.cells).drop (j * 3) = (l.drop j).flatMap Pt.cells:=by
  intro l
  induction l with
  | nil=>intro j; simp
  | cons p l ih =>
    intro j
    cases j with
    | zero=>simp
    | succ j =>
      have : (j + 1) * 3 = j * 3 + 3:=by omega
      rw [this]
      simp only [List.flatMap_cons,Zby,← ih]
      rw [Nat.add_comm,← List.drop_drop]
      simp [Pt.cells]
theorem pts_at {cur : Array Value} {l : List Pt} (h : cur.toList.take (l.length * 3) = l.flatMap Pt.cells) {j : Nat} {p : Pt} (hj : l[j]? = some p) :
    j * 3 + 3≤cur.size∧cur.extract (j * 3) (j * 3 + 3) = p.cells.toArray:=by
  obtain ⟨hlt,he⟩:=List.getElem?_eq_some_iff.1 hj
  have hlen : (l.flatMap Pt.cells).length = l.length * 3:=by
    clear h hj he hlt
    induction l with
    | nil=>rfl
    | cons p l ih=>simp [ih,Pt.cells]; omega
  have hsz : l.length * 3≤cur.size:=by
    have:=congrArg List.length h
    rw [hlen,List.length_take] at this
    have hs : cur.toList.length = cur.size:=Array.length_toList
    omega
  refine ⟨by omega, ?_⟩
  apply Array.ext'
  have e : (cur.extract (j * 3) (j * 3 + 3)).toList = (cur.toList.drop (j * 3)).take 3:=by
    simp [List.take_drop,Nat.add_comm]
  rw [e]
  have e2 : (cur.toList.drop (j * 3)).take 3 = ((cur.toList.take (l.length * 3)).drop (j * 3)).take 3:=by
    rw [List.drop_take,List.take_take]
    congr 1; omega
  rw [e2,h,flat_drop,List.drop_eq_getElem_cons hlt]
  simp [he,Pt.cells]
theorem keyf_c (l : List Pt) (v : Value) (m : Int) (w : World) (K : Value→World→Prop) (hg : Gl m w) (hv : IsPts w v l) (hl : l.length < 2 ^ 60) (hp : ∀ p ∈ l,p.good)
    (h : ∀ w',Mod (fun _=>False) w w'→K (.tuple #[.string (keyL l []).1,.int .i64 (keyL l []).2]) w') :
    Ok Proofs.Tryz.prog 254 #[v] w K:=by
  obtain ⟨g,cap,cur,rfl,hg1,hcur⟩:=hv
  refine F254.enter (args:=[.slice (some ⟨g,0,none⟩) l.length cap]) (by simp) ?_
  unfold c254 r254
  have hglt:=lt_of_get hg1
  simp only [ZB,insVc,lenLK,Value.cells,ne_eq,reduceCtorEq,Zaf,Za]
  refine vc_loop (fun m ρ ds w'=>ds = []∧ρ 7 = .slice (some ⟨g,0,none⟩) l.length cap∧ρ 8 = .int .i64 l.length∧ρ 4 = ptr w.heap.size∧Mod (fun _=>False) w w' ∧
    ∃ (i : Nat) (acc : List UInt8),i + m = l.length∧ρ 9 = .int .i64 i∧IsB w' w.heap.size w.heap.size acc∧acc.length≤255∧keyL l [] = keyL (l.drop i) acc) l.length ?_ ?_
  · exact ⟨rfl,by simp only [ZB,ne_eq,Nat.reduceEqDiff],by simp only [ZB,ne_eq,Nat.reduceEqDiff],by simp only [ZB,ne_eq,Nat.reduceEqDiff],(Mod.refl _ _).alloc _,0,[],by simp,by simp only [ZB]; rfl,isB_fresh _ _ (get_alloc_new _ _),by simp,by simp⟩
  · rintro k ρ ds w' ⟨rfl,h7,h8,h4,hm,i,acc,him,h9,hb,hacc,hk⟩
    simp only [ZB,insVc,iopK,iopV,reduceCtorEq,h8,h9]
    by_cases hi : (i : Int) < l.length
    · obtain ⟨p,hp1⟩ : ∃ p,l[i]? = some p:=⟨_,List.getElem?_eq_getElem (by omega)⟩
      have hgood : p.good:=hp p (List.mem_of_getElem? hp1)
      obtain ⟨hsz,hex⟩:=pts_at hcur hp1
      simp only [ZB,insVc,loadNK,storeNK,setMany,iaddrK,isPlain,Value.cells,ne_eq,Nat.reduceEqDiff,Nat.reduceAdd,Nat.reduceLeDiff,Zad,Zac,Zai,Zaj,Zak,Zal,Zam,Zan,Zbj,Zaq,Zap,Zar,Zao,Zas,Zat,Zau,Zaw,Zax,Zbk,Zbf,Zb,hi,h7,h9,hm.keep hg1 id,hex,Pt.cells]
      refine ⟨by omega,hsz, ?_⟩
      have hmx : Mod (fun _=>False) w' (Vc.set (w'.alloc (.cells #[.bool false,.int .u64 0,.string ⟨#[]⟩] 220)) w'.heap.size (.cells #[.bool p.t,.int .u64 p.n,.string p.s] 220 (0,0))):=((Mod.refl _ _).alloc _).set (.inl (Nat.le_refl _))
      refine bytes_c p m _ _ ((hg.mod hm id).mod hmx id) hgood ?_
      intro w2 hm2
      simp only [ZB,insVc,ne_eq,Nat.reduceEqDiff,Zad,Zac,h4]
      have hb2:=(hb.keep hmx).keep hm2
      have hm12:=(hm.trans hmx).trans hm2
      have hpl : p.bytes.length≤2 ^ 34:=by
        have hes:=esc_length p.s.data.toList
        have hsz : p.s.data.toList.length = p.s.size:=by rw [Array.length_toList]; rfl
        have h2:=hgood.2
        unfold Pt.bytes
        split
        · simp only [Zaj,Zca,Zak]; omega
        · simp [big]
      have hps : (⟨p.bytes.toArray⟩ : ByteArray).size = p.bytes.length:=by simp [ByteArray.size]
      refine wstr_c w.heap.size w.heap.size acc ⟨p.bytes.toArray⟩ w2 _ hb2 (by rw [hps]; omega) hm12.size ?_
      intro w3 hm3 hb3
      simp only [] at hb3
      have hm13 : Mod (fun _=>False) w w3:=hm12.then hm3 (fun i hi hk=>by omega)
      simp only [ZB,insVc,ne_eq,Nat.reduceEqDiff,Zad,Zac,h4]
      refine blen_c w.heap.size w.heap.size _ w3 _ hb3 ?_
      simp only [ZB,insVc,iopK,iopV,reduceCtorEq]
      have hkl : keyL (l.drop i) acc = if (acc ++ p.bytes).length > 255 then (e0,5) else keyL (l.drop (i + 1)) (acc ++ p.bytes):=by
        obtain ⟨hlt,he⟩:=List.getElem?_eq_some_iff.1 hp1
        rw [List.drop_eq_getElem_cons hlt,he]
        rfl
      refine condP_split ?_ ?_
      · intro hgt
        have hgt':=of_decide_eq_true hgt
        rw [if_pos (by omega)] at hkl
        simp only [ZB,endK,resK,packed,insVc,ne_eq,Nat.reduceEqDiff,Zaa,Zav]
        rw [hk,hkl] at h
        exact h w3 hm13
      · intro hgt
        have hgt':=of_decide_eq_false hgt
        rw [if_neg (by omega)] at hkl
        simp only [ZB,insVc,iopK,iopV,ne_eq,Nat.reduceEqDiff,reduceCtorEq,h7,h8,h4,h9]
        refine ⟨k - 1,by omega,hm13,i + 1,acc ++ p.bytes,by omega, ?_,hb3,by omega,by rw [hk,hkl]⟩
        rw [wrap_i64 _ (by omega)]; rfl
    · have hil : i = l.length:=by omega
      subst hil
      simp only [ZB,insVc,ne_eq,Nat.reduceEqDiff,Zad,Zac,hi,h4]
      refine bstring_c w.heap.size w.heap.size acc w' _ hb hm.size ?_
      intro w2 hm2
      simp only [ZB,endK,resK,packed,insVc,ne_eq,Nat.reduceEqDiff,Zaa,Zav]
      rw [hk,List.drop_of_length_le (Nat.le_refl _)] at h
      exact h w2 (hm.then hm2 (fun i hi hk=>by omega))
end Go.Oct
