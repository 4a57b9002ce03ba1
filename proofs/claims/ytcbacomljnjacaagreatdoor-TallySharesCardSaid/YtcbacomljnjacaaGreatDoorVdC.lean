import Derived.Test.YtcbacomljnjacaaGreatDoorVmA
import Derived.Test.YtcbacomljnjacaaGreatDoorVrL
import Derived.Test.YtcbacomljnjacaaGreatDoorVoI
import Derived.Test.YtcbacomljnjacaaGreatDoorVcP
import Derived.Test.YtcbacomljnjacaaGreatDoorTryzShelf
import Derived.Test.YtcbacomljnjacaaGreatDoorVcL
set_option linter.unusedSimpArgs false
set_option linter.unusedVariables false
set_option linter.unusedSectionVars false
set_option linter.unnecessarySimpa false
namespace Go.Oct
open Go Go.Vc Go.VrA Go.VrK Go.VrL Go.Tal
set_option maxRecDepth 100000
theorem class_c (n : Nat) (w : World) (K : Value→World→Prop) (hn : n < 18446744073709551616) (h : K (.int .i64 (cls n : Nat)) w) : Ok Proofs.Tryz.prog 22 #[.int .u64 n] w K:=by
  refine F22.enter (args:=[.int .u64 n]) (by simp) ?_
  unfold c22 r22
  simp only [ZB,insVc,ne_eq,reduceCtorEq,Zaf,Zad,Zac,Za]
  refine ok_of_calls (by kernel_rfl) (Go.Proofs.Tryz.bits_Len64 (n : Int) w (by omega) (by omega)) ?_
  rintro e w' ⟨rfl,rfl⟩
  refine ⟨_,rfl, ?_⟩
  simp only [ZB,endK,resK,packed,insVc,Zaa,Zbj]
  exact h
theorem div64_c (a b : Nat) (w : World) (K : Value→World→Prop) (ha : a < 18446744073709551616) (hb : b < 18446744073709551616) (h0 : 0 < b) (h : ∀ w',Mod (fun _=>False) w w'→K (.tuple #[.int .u64 ((a / b : Nat) : Int),.int .u64 ((a % b : Nat) : Int)]) w') :
    Ok Proofs.Tryz.prog 50 #[.int .u64 0,.int .u64 a,.int .u64 b] w K:=by
  refine F50.enter (args:=[.int .u64 0,.int .u64 a,.int .u64 b]) (by simp) ?_
  unfold c50 r50
  have b0 : ((b : Int) == 0) = false:=by simp; omega
  have b1 : ¬ (b : Int)≤0:=by omega
  have z0 : ((0 : Int) == 0) = true:=rfl
  simp only [ZB,insVc,iopK,iopV,ne_eq,Nat.reduceEqDiff,reduceCtorEq,Zaf,Za,Zag,b0,b1,z0]
  refine draw_d (fun _=>True) (by kernel_rfl) (by kernel_rfl) (by kernel_rfl) (by kernel_rfl) trivial ?_
  have b2 : (b : Int)≠0:=by omega
  simp only [ZB,endK,resK,packed,insVc,iopK,iopV,ne_eq,Nat.reduceEqDiff,reduceCtorEq,Zaf,Za,Zag,Zaa,Zav,Zab,Zae,pureI,vcD_nil,vcD_cons,stepD_pure,kindI,loadI,b2]
  have hd : a / b < 18446744073709551616:=Nat.lt_of_le_of_lt (Nat.div_le_self _ _) ha
  rw [show Int.tdiv (a : Int) (b : Int) = ((a / b : Nat) : Int) from rfl,show Int.tmod (a : Int) (b : Int) = ((a % b : Nat) : Int) from rfl,wrap_u64 _ (by omega)]
  exact h _ (Mod.refl _ _).drew
theorem wrap_u64' (n : Nat) (h : n < 2 ^ 64) : IntKind.u64.wrap ((n : Nat) : Int) = ((n : Nat) : Int):=wrap_u64 n h
theorem need_c (c s o : Nat) (w : World) (K : Value→World→Prop) (hc : c < 18446744073709551616) (hs : s < 18446744073709551616) (ho : o < 18446744073709551616) (h0 : 0 < o) (hp : c * s < 18446744073709551616)
    (h : ∀ w',Mod (fun _=>False) w w'→K (.int .u64 (needN c s o : Nat)) w') : Ok Proofs.Tryz.prog 36 #[.int .u64 c,.int .u64 s,.int .u64 o] w K:=by
  refine F36.enter (args:=[.int .u64 c,.int .u64 s,.int .u64 o]) (by simp) ?_
  unfold c36 r36
  by_cases hso : o≤s
  · have k1 : (s : Int) ≥ o:=by omega
    simp only [ZB,endK,resK,packed,insVc,iopK,iopV,ne_eq,Nat.reduceEqDiff,reduceCtorEq,Zaf,Za,Zag,Zaa,k1]
    have:=h w (Mod.refl _ _)
    unfold needN at this
    rw [if_pos hso] at this
    exact this
  · have k1 : ¬ (s : Int) ≥ o:=by omega
    simp only [ZB,insVc,iopK,iopV,ne_eq,Nat.reduceEqDiff,reduceCtorEq,Zaf,Zad,Zac,Za,Zag,k1]
    refine ok_of_calls (by kernel_rfl) (Go.Proofs.Tryz.bits_Mul64 c s hc hs w) ?_
    rintro e w' ⟨rfl,rfl⟩
    refine ⟨_,rfl, ?_⟩
    rw [Nat.div_eq_of_lt hp,Nat.mod_eq_of_lt hp]
    simp only [ZB,insVc,extK,ne_eq,Nat.reduceEqDiff,Zaf,Zad,Zac,Za,Zag,Zah]
    refine div64_c (c * s) o w' _ hp ho h0 ?_
    intro w1 hm1
    have hn : needN c s o = c * s / o + (if 0 < c * s % o then 1 else 0):=by unfold needN; rw [if_neg hso]
    have hd : c * s / o≤c * s:=Nat.div_le_self _ _
    have hle:=need_le c s o h0
    have h':=h w1 hm1
    rw [hn] at h'
    rw [hn] at hle
    by_cases hr : 0 < c * s % o
    · have k2 : ((c * s % o : Nat) : Int) > 0:=by omega
      simp only [ZB,endK,resK,packed,insVc,iopK,iopV,extK,ne_eq,Nat.reduceEqDiff,reduceCtorEq,Za,Zag,Zah,Zaa,k2]
      rw [if_pos hr] at h' hle
      rw [show ((c * s / o : Nat) : Int) + 1 = ((c * s / o + 1 : Nat) : Int) from rfl,wrap_u64' (c * s / o + 1) (by omega)]
      exact h'
    · have k2 : ¬ ((c * s % o : Nat) : Int) > 0:=by omega
      simp only [ZB,endK,resK,packed,insVc,iopK,iopV,extK,ne_eq,Nat.reduceEqDiff,reduceCtorEq,Za,Zag,Zah,Zaa,k2]
      rw [if_neg hr] at h'
      exact h'
end Go.Oct
namespace Go.Oct
open Go Go.Vc Go.VrA Go.VrK Go.VrL Go.Tal
set_option maxRecDepth 100000
def numV (l : List Nat) : List Value:=l.map fun (n : Nat)=>.int .u64 (n : Int)
def _root_.Go.Tal.Rw.cells (r : Rw) : List Value:=.int .u64 (r.c : Int) :: .int .u64 (r.s : Int) :: .int .u64 (r.lo : Int) :: .int .u64 (r.hi : Int) :: numV r.cl
def _root_.Go.Tal.Rw.val (r : Rw) : Value:=.agg r.cells.toArray
structure _root_.Go.Tal.Rw.good (r : Rw) : Prop where
  c : r.c < 18446744073709551616
  s : r.s < 18446744073709551616
  lo : r.lo < 18446744073709551616
  hi : r.hi < 18446744073709551616
  len : r.cl.length = 65
  cl : ∀ n ∈ r.cl,n < 18446744073709551616
theorem numV_len (l : List Nat) : (numV l).length = l.length:=by simp [numV]
theorem numV_at (l : List Nat) (k : Nat) : (numV l)[k]? = l[k]?.map (fun (n : Nat)=>.int .u64 (n : Int)):=by simp [numV]
theorem cells_len (r : Rw) (h : r.good) : r.cells.length = 69:=by simp [Rw.cells,numV_len,h.len]
theorem tCls : (Proofs.Tryz.prog).underlying 40 = some (.array 65 27):=by kernel_rfl
theorem run_index_cls (cs : Array Value) (k : Nat) (hk : k < 65) (v : Value) (hv : cs[k]? = some v) (w : World) : (Instr.index 40 (.agg cs) (.int .i64 (k : Int))).run Proofs.Tryz.prog w = .ok v w:=by
  simp [Instr.index,Sem.run_bind,run_asIntOf,run_underlying tCls,Result.andThen,hk]
  exact run_part_plain _ (by kernel_rfl) hv
section
variable {P : Program} {n : Nat} {go : Value→World→Prop} {ρ : Env} {ds : List Deferred} {w : World} {o : Oper}
theorem rawK_index {x i : Operand} {t : TypeId} {v : Value} {w' : World} (ho : o.op = .index t x i) (hx : inB n x = true) (hi : inB n i = true)
    (hr : (Instr.index t (ev ρ x) (ev ρ i)).run P w = .ok v w') (h : go v w') : RawK P go ρ ds n o w:=by
  unfold RawK
  simp only [execOp,ho,Sem.run_bind,mkA_eval n ρ ds x hx,mkA_eval n ρ ds i hi,hr,Result.andThen,pure,Sem.run]
  exact h
end
theorem at_c (r : Rw) (share o : Nat) (w : World) (K : Value→World→Prop) (hr : r.good) (hs : share < 18446744073709551616) (ho : o < 18446744073709551616) (hp : r.c * share < 18446744073709551616)
    (h : ∀ w',Mod (fun _=>False) w w'→K (.int .i64 (r.at share o : Nat)) w') : Ok Proofs.Tryz.prog 21 #[r.val,.int .u64 share,.int .u64 o] w K:=by
  refine F21.enter (args:=[r.val,.int .u64 share,.int .u64 o]) (by simp) ?_
  unfold c21 r21
  have z0 : ((0 : Int) == 0) = true:=rfl
  have kc : ((r.c : Int) == 0) = decide (r.c = 0):=by by_cases hq : r.c = 0 <;> simp [hq]
  have ko : ((o : Int) == 0) = decide (o = 0):=by by_cases hq : o = 0 <;> simp [hq]
  have ks : ((share : Int) == 0) = decide (share = 0):=by by_cases hq : share = 0 <;> simp [hq]
  have h0 : r.c = 0∨o = 0∨share = 0→K (.int .i64 0) (w.alloc (.cells r.cells.toArray 42)):=by
    intro hz
    have e0 : r.at share o = 0:=by unfold Rw.at; rw [if_pos hz]
    rw [e0] at h
    exact h _ ((Mod.refl _ w).alloc _)
  by_cases c1 : r.c = 0
  · have k1 : ((r.c : Int) == 0) = true:=by rw [kc,decide_eq_true c1]
    have h':=h0 (.inl c1)
    simp only [Rw.cells] at h'
    simp only [ZB,endK,resK,packed,insVc,pickK,load1K,iopK,iopV,faddrK,Value.cells,ne_eq,Nat.reduceEqDiff,reduceCtorEq,Zaf,Za,Zah,Zaa,Zab,get_alloc,Nat.reduceEqDiff,Rw.val,Rw.cells,k1]
    exact h'
  have k1 : ((r.c : Int) == 0) = false:=by rw [kc,decide_eq_false c1]
  by_cases c2 : o = 0
  · have k2 : ((o : Int) == 0) = true:=by rw [ko,decide_eq_true c2]
    have h':=h0 (.inr (.inl c2))
    simp only [Rw.cells] at h'
    simp only [ZB,endK,resK,packed,insVc,pickK,load1K,iopK,iopV,faddrK,Value.cells,ne_eq,Nat.reduceEqDiff,reduceCtorEq,Zaf,Za,Zag,Zah,Zaa,Zab,Zae,get_alloc,Nat.reduceEqDiff,Rw.val,Rw.cells,k1,k2]
    exact h'
  have k2 : ((o : Int) == 0) = false:=by rw [ko,decide_eq_false c2]
  by_cases c3 : share = 0
  · have k3 : ((share : Int) == 0) = true:=by rw [ks,decide_eq_true c3]
    have h':=h0 (.inr (.inr c3))
    simp only [Rw.cells] at h'
    simp only [ZB,endK,resK,packed,insVc,pickK,load1K,iopK,iopV,faddrK,Value.cells,ne_eq,Nat.reduceEqDiff,reduceCtorEq,Zaf,Za,Zag,Zah,Zaa,Zab,Zae,get_alloc,Nat.reduceEqDiff,Rw.val,Rw.cells,k1,k2,k3]
    exact h'
  have k3 : ((share : Int) == 0) = false:=by rw [ks,decide_eq_false c3]
  simp only [ZB,insVc,pickK,load1K,iopK,iopV,faddrK,Value.cells,ne_eq,Nat.reduceEqDiff,reduceCtorEq,Zaf,Zad,Zac,Za,Zag,Zah,Zab,Zae,get_alloc,Nat.reduceEqDiff,Rw.val,Rw.cells,k1,k2,k3]
  refine callK_gen ?_
  intro w1 hw1
  have hm1 : Mod (fun _=>False) w w1:=by rw [hw1]; exact (Mod.refl _ _).alloc _
  have b1 : w1.heap[w.heap.size]? = some (.cells r.cells.toArray 42 (0,0)):=by rw [hw1]; exact get_alloc_new _ _
  clear hw1
  refine need_c r.c share o w1 _ hr.c hs ho (by omega) hp ?_
  intro w2 hm2
  have b2:=hm2.keep b1 id
  have hcl : numV r.cl = r.cells.drop 4:=rfl
  have hsz : r.cells.toArray.size = 69:=by rw [List.size_toArray]; exact cells_len r hr
  have hex : r.cells.toArray.extract 4 69 = (numV r.cl).toArray:=by
    rw [hcl]
    apply Array.ext'
    rw [Array.toList_extract]
    simp only [Zap]
    rw [List.take_of_length_le]
    rw [List.length_drop,cells_len r hr]
    omega
  simp only [ZB,insVc,loadNK,faddrK,ne_eq,Nat.reduceEqDiff,Nat.reduceAdd,Nat.reduceLeDiff,Nat.reduceAdd,Nat.reduceEqDiff,b2,hsz,hex]
  have hat : r.at share o = atF (needN r.c share o) r.cl 0 0:=by unfold Rw.at; rw [if_neg (by omega)]
  refine vc_loop (fun m ρ ds w'=>ds = []∧ρ 7 = .int .u64 (needN r.c share o : Nat)∧ρ 28 = .agg (numV r.cl).toArray∧Mod (fun _=>False) w w' ∧
    ∃ i seen : Nat,i + m = 65∧ρ 29 = .int .i64 i∧ρ 8 = .int .u64 seen∧seen < 18446744073709551616∧atF (needN r.c share o) (r.cl.drop i) seen i = r.at share o) 65 ?_ ?_
  · exact ⟨rfl,by simp only [ZB,ne_eq,Nat.reduceEqDiff],by simp only [ZB,ne_eq,Nat.reduceEqDiff],hm1.trans hm2,0,0,rfl,by simp only [ZB]; rfl,by simp only [ZB,ne_eq,Nat.reduceEqDiff]; rfl,by decide,hat.symm⟩
  · rintro m ρ ds w' ⟨rfl,h7,h28,hm,i,seen,him,h29,h8,hsn,hF⟩
    simp only [ZB,insVc,iopK,iopV,reduceCtorEq,h29]
    by_cases hi : (i : Int) < 65
    · obtain ⟨x,hx⟩ : ∃ x,r.cl[i]? = some x:=⟨_,List.getElem?_eq_getElem (by rw [hr.len]; omega)⟩
      have hxl:=hr.cl x (List.mem_of_getElem? hx)
      have hd : r.cl.drop i = x :: r.cl.drop (i + 1):=by
        obtain ⟨hlt,he⟩:=List.getElem?_eq_some_iff.1 hx
        rw [List.drop_eq_getElem_cons hlt,he]
      rw [hd] at hF
      simp only [ZB,insVc,ne_eq,Nat.reduceEqDiff,hi,h29]
      refine rawK_index (v:=.int .u64 (x : Int)) (w':=w') rfl rfl rfl ?_ ?_
      · simp only [ZB,ne_eq,Nat.reduceEqDiff,h28,h29]
        exact run_index_cls _ i (by omega) _ (by rw [List.getElem?_toArray,numV_at,hx]; rfl) w'
      rw [atF] at hF
      simp only [ZB,insVc,iopK,iopV,ne_eq,Nat.reduceEqDiff,reduceCtorEq,h7,h8]
      have hsum : IntKind.u64.wrap ((seen : Int) + (x : Int)) = (((seen + x) % 18446744073709551616 : Nat) : Int):=by rw [IntKind.wrap_u64]; omega
      by_cases hge : needN r.c share o≤(seen + x) % 18446744073709551616
      · have g1 : (((seen + x) % 18446744073709551616 : Nat) : Int) ≥ (needN r.c share o : Nat):=by omega
        rw [if_pos hge] at hF
        simp only [ZB,endK,resK,packed,insVc,ne_eq,Nat.reduceEqDiff,Zaa,hsum,g1]
        rw [hF]
        exact h w' hm
      · have g1 : ¬ (((seen + x) % 18446744073709551616 : Nat) : Int) ≥ (needN r.c share o : Nat):=by omega
        rw [if_neg hge] at hF
        simp only [ZB,insVc,iopK,iopV,ne_eq,Nat.reduceEqDiff,reduceCtorEq,hsum,g1,h29]
        refine ⟨m - 1,by omega,h7,h28,hm,i + 1,_,by omega, ?_,rfl,Nat.mod_lt _ (by decide),hF⟩
        rw [wrap_i64 _ (by omega)]; rfl
    · have hil : i = 65:=by omega
      subst hil
      simp only [ZB,endK,resK,packed,insVc,Zaa,hi]
      have : r.cl.drop 65 = []:=List.drop_eq_nil_of_le (by rw [hr.len]; omega)
      rw [this] at hF
      have e : r.at share o = 64:=hF.symm
      rw [e] at h
      exact h w' hm
end Go.Oct
namespace Go.Vc
open Go
variable {P : Program} {ro : Option Nat} {n : Nat} {ops : Array Oper}
def depsOf (ops : Array Oper) : List (List Nat):=ops.toList.map fun o=>(o.after.toList.filter (Region.binds .any)).map (·.on)
theorem countP_set (L : Nat→Bool) (i : Nat) : ∀ l : List Nat,l.Nodup→i ∈ l→L i = false→l.countP (fun k => !(k == i || L k)) + 1 = l.countP (fun k => !L k):=by
  intro l
  induction l with
  | nil=>intro _ h _; cases h
  | cons x l ih =>
    intro hn hi hL
    have hn':=List.nodup_cons.1 hn
    rw [List.countP_cons,List.countP_cons]
    by_cases hx : x = i
    · subst hx
      have hsame : l.countP (fun k => !(k == x || L k)) = l.countP (fun k => !L k):=by
        refine List.countP_congr ?_
        intro k hk
        have hne : k≠x:=fun e=>hn'.1 (e ▸ hk)
        simp [hne]
      rw [hsame,hL]; simp
    · have hi' : i ∈ l:=by rcases List.mem_cons.1 hi with e | h; exact absurd e.symm hx; exact h
      have:=ih hn'.2 hi' hL
      have hb : (x == i) = false:=by simpa using hx
      rw [hb]
      simp only [Zbz]
      omega
theorem wpAnyIn_of_I {l : List In} {dp : List (List Nat)} {ds : List Deferred} (I : (Nat→Bool)→Env→World→Prop) {Q' : Exit→Act→World→Prop} (hl : compOps P n ops ops.toList = some l) (hdp : depsOf ops = dp)
    (hg : ∀ x ∈ l,x.g = none)
    (hlt : ∀ (i : Nat) (d : List Nat),dp[i]? = some d→∀ k ∈ d,k < i)
    (hs : ∀ (L : Nat→Bool) (ρ : Env) (w : World) (i : Nat) (x : In) (d : List Nat),l[i]? = some x→dp[i]? = some d→L i = false→(∀ k ∈ d,L k = true)→I L ρ w→insVc P (fun v w'=>I (fun k=>k == i || L k) (updO ρ x.d v) w') ρ ds w x.i)
    (he : ∀ (L : Nat→Bool) (ρ : Env) (w : World),(∀ i,i < ops.size→L i = true)→I L ρ w→Q' .normal (mkA n ρ ds) w) :
    ∀ (fuel : Nat) (listed : Array Bool) (ρ : Env) (w : World),listed.size = ops.size→(List.range ops.size).countP (fun k => !(listed.getD k false))≤fuel→I (fun k=>listed.getD k false) ρ w →
      wpAnyIn (FW ro) 0 P .any ops Q' fuel listed (mkA n ρ ds) w:=by
  have hcomp : ∀ (l0 : List Oper) (li : List In),compOps P n ops l0 = some li→(∀ x ∈ li,x.g = none)→∀ (i : Nat) (o : Oper),l0[i]? = some o→li[i]? = some (⟨none,o.dst,compOp P n o⟩ : In)∧compG n ops o.guard = some none:=by
    intro l0
    induction l0 with
    | nil=>intro li _ _ i o h; simp at h
    | cons o0 l0 ih =>
      intro li hc hgn i o h
      simp only [compOps] at hc
      split at hc
      · rename_i g l' hgc hl'
        simp at hc; subst hc
        have h0:=hgn _ (List.mem_cons_self)
        simp only at h0
        subst h0
        cases i with
        | zero=>simp at h; subst h; exact ⟨rfl,hgc⟩
        | succ i=>simp at h; simpa using ih l' hl' (fun x hx=>hgn x (List.mem_cons_of_mem _ hx)) i o h
      · cases hc
  have hall : ∀ (listed : Array Bool),listed.size = ops.size→Region.ready .any ops listed = []→∀ i,i < ops.size→listed.getD i false = true:=by
    intro listed hsz hr i
    induction i using Nat.strongRecOn with
    | ind i ih =>
      intro hi
      cases hb : listed.getD i false with
      | true=>rfl
      | false =>
        exfalso
        obtain ⟨o,ho⟩ : ∃ o,ops[i]? = some o:=⟨_,Array.getElem?_eq_getElem hi⟩
        have hmem : i ∈ Region.ready .any ops listed:=by
          rw [mem_ready]
          refine ⟨?_,o,ho, ?_⟩
          · have hi' : i < listed.size:=by omega
            simp only [Zcc,Array.getElem?_eq_getElem hi',Zaf] at hb ⊢
            exact hb
          · intro e he' hbd
            have hd : dp[i]? = some ((o.after.toList.filter (Region.binds .any)).map (·.on)):=by
              rw [← hdp]
              simp [depsOf,ho]
            have hk:=hlt i _ hd e.on (List.mem_map.2 ⟨e,List.mem_filter.2 ⟨Array.mem_toList_iff.2 he',hbd⟩,rfl⟩)
            exact ih e.on hk (by omega)
        rw [hr] at hmem; cases hmem
  intro fuel
  induction fuel with
  | zero =>
    intro listed ρ w hsz hc hI
    have hall' : ∀ i,i < ops.size→listed.getD i false = true:=by
      intro i hi
      have:=List.countP_eq_zero.1 (Nat.le_zero.1 hc) i (List.mem_range.2 hi)
      simpa using this
    refine ⟨?_,he _ ρ w hall' hI⟩
    refine List.eq_nil_iff_forall_not_mem.2 ?_
    intro j hj
    obtain ⟨h0,o,ho,_⟩:=mem_ready.1 hj
    have hj' : j < ops.size:=(Array.getElem?_eq_some_iff.1 ho).1
    have h1:=hall' j hj'
    have hjl : j < listed.size:=by omega
    simp only [Zcc,Array.getElem?_eq_getElem hjl,Zaf] at h0 h1
    rw [h1] at h0; cases h0
  | succ fuel ih =>
    intro listed ρ w hsz hc hI
    refine ⟨fun h0=>he _ ρ w (hall listed hsz h0) hI, ?_⟩
    intro i hi
    obtain ⟨h0,o,ho,hdeps⟩:=mem_ready.1 hi
    have hi' : i < ops.size:=(Array.getElem?_eq_some_iff.1 ho).1
    have hil : i < listed.size:=by omega
    have hLi : listed.getD i false = false:=by
      simp only [Zcc,Array.getElem?_eq_getElem hil,Zaf] at h0 ⊢
      exact h0
    have ho' : ops.toList[i]? = some o:=by simpa using ho
    obtain ⟨hx,hgd⟩:=hcomp _ _ hl hg i o ho'
    have hd : dp[i]? = some ((o.after.toList.filter (Region.binds .any)).map (·.on)):=by
      rw [← hdp]
      simp [depsOf,ho]
    have hins:=hs _ ρ w i _ _ hx hd hLi (by
      intro k hk
      obtain ⟨e,he',rfl⟩:=List.mem_map.1 hk
      obtain ⟨h1,h2⟩:=List.mem_filter.1 he'
      exact hdeps e (Array.mem_toList_iff.1 h1) h2) hI
    unfold wpOpIn
    simp only [ho]
    have hwg:=wanted_gate (ρ:=ρ) (ds:=ds) hgd
    rw [hwg]
    simp only [gateOf,Zab]
    refine wpIn_of_upon (upon_mono ?_ (sound_ins n o hins))
    intro v w' h
    rw [mkA_put]
    refine ih _ _ _ (by simp [hsz]) ?_ ?_
    · have hfun : (fun k => !((listed.setIfInBounds i true).getD k false)) = fun k => !(k == i || listed.getD k false):=by
        funext k
        by_cases hk : i = k
        · subst hk; simp [hil]
        · have : (k == i) = false:=by simpa using fun e=>hk e.symm
          rw [getD_set_ne false hk,this]; rfl
      have:=countP_set (fun k=>listed.getD k false) i (List.range ops.size) List.nodup_range (List.mem_range.2 hi') hLi
      rw [hfun]
      omega
    · have hfun : (fun k=>(listed.setIfInBounds i true).getD k false) = fun k=>(k == i || listed.getD k false):=by
        funext k
        by_cases hk : i = k
        · subst hk; simp [hil]
        · have : (k == i) = false:=by simpa using fun e=>hk e.symm
          rw [getD_set_ne false hk,this]; rfl
      rw [hfun]
      exact h
theorem draw_i (I : (Nat→Bool)→Env→World→Prop) {id : Nat} {l : List In} {dp : List (List Nat)} {Q : QT} {ρ : Env} {ds : List Deferred} {w : World} (hm : P.follows .mixedOrders = true) (hl : compOps P n ops ops.toList = some l) (hdp : depsOf ops = dp)
    (hg : l.all (fun x=>x.g.isNone) = true) (hlt : (dp.zipIdx.all fun x=>x.1.all fun k=>decide (k < x.2)) = true)
    (h0 : I (fun _=>false) ρ w.drew)
    (hs : ∀ (L : Nat→Bool) (ρ : Env) (w : World) (i : Nat) (x : In) (d : List Nat),l[i]? = some x→dp[i]? = some d→L i = false→(∀ k ∈ d,L k = true)→I L ρ w→insVc P (fun v w'=>I (fun k=>k == i || L k) (updO ρ x.d v) w') ρ ds w x.i)
    (he : ∀ (L : Nat→Bool) (ρ : Env) (w : World),(∀ i,i < ops.size→L i = true)→I L ρ w→Q .normal ρ ds w) : vc P ro n (.draw id ops l) Q ρ ds w:=by
  intro t
  simp only [Region.schedule,hm,Zbx,Zab]
  refine wpAnyIn_sound ops.size t _ _ _ ?_
  refine wpAnyIn_of_I (ds:=ds) I hl hdp ?_ ?_ hs (fun L ρ w h1 h2=>⟨ρ,ds,rfl,he L ρ w h1 h2⟩) ops.size _ ρ w.drew (by simp) ?_ ?_
  · intro x hx
    have:=List.all_eq_true.1 hg x hx
    simpa using this
  · intro i d hd k hk
    have h1:=List.all_eq_true.1 hlt (d,i) (List.mem_zipIdx_iff_getElem?.2 hd)
    simpa using List.all_eq_true.1 h1 k hk
  · refine Nat.le_trans List.countP_le_length (by simp)
  · have : (fun k=>(Array.replicate ops.size false).getD k false) = fun _=>false:=by
      funext k
      by_cases hk : k < ops.size
      · simp [hk]
      · simp [hk]
    rw [this]; exact h0
end Go.Vc
namespace Go.Vc
open Go
variable {P : Program} {go : Value→World→Prop} {w : World}
theorem mk_size (a : List UInt8) : (⟨a.toArray⟩ : ByteArray).size = a.length:=by simp [ByteArray.size]
theorem mk_toList (a : List UInt8) : (⟨a.toArray⟩ : ByteArray).toList = a:=by rw [ByteArray.toList_eq]
theorem mk_self (s : ByteArray) : (⟨s.data.toList.toArray⟩ : ByteArray) = s:=rfl
end Go.Vc
namespace Go.Vc
open Go
def IsT {α : Type} (cells : α→List Value) (s : Nat) (w : World) (v : Value) (l : List α) : Prop :=
  (∃ a c,v = .slice a l.length c)∧∀ (i : Nat) x,l[i]? = some x→∃ b o c cur t f,v = .slice (some ⟨b,o,none⟩) l.length c∧w.heap[b]? = some (.cells cur t f)∧o + i * s + s≤cur.size∧cur.extract (o + i * s) (o + i * s + s) = (cells x).toArray
variable {α : Type} {cells : α→List Value} {s : Nat} {w w' : World} {v : Value} {l : List α}
theorem IsT.mod {S : Nat→Prop} (h : IsT cells s w v l) (hm : Mod S w w') (hS : ∀ k,v.ownBlock = some k→¬ S k) : IsT cells s w' v l :=
  ⟨h.1,fun i x hx=>by obtain ⟨b,o,c,cur,t,f,h1,h2,h3⟩:=h.2 i x hx; exact ⟨b,o,c,cur,t,f,h1,hm.keep h2 (hS b (by rw [h1]; rfl)),h3⟩⟩
theorem IsT.keep (h : IsT cells s w v l) (hm : Mod (fun _=>False) w w') : IsT cells s w' v l:=h.mod hm (fun _ _ x=>x)
theorem IsT.nil (c : Nat) (a : Option Addr) : IsT cells s w (.slice a 0 c) ([] : List α):=⟨⟨a,c,rfl⟩,fun i x hx=>by simp at hx⟩
theorem IsT.at {a : Option Addr} {n c i : Nat} {x : α} (h : IsT cells s w (.slice a n c) l) (hx : l[i]? = some x) :
    ∃ b o cur t f,a = some ⟨b,o,none⟩∧w.heap[b]? = some (.cells cur t f)∧o + i * s + s≤cur.size∧cur.extract (o + i * s) (o + i * s + s) = (cells x).toArray:=by
  obtain ⟨b,o,c',cur,t,f,he,h1,h2,h3⟩:=h.2 i x hx
  exact ⟨b,o,cur,t,f,by simpa using congrArg (fun x=>match x with | .slice a _ _=>a | _=>none) he,h1,h2,h3⟩
theorem extract_cell {cur : Array Value} {o s : Nat} {cs : List Value} (hsz : o + s≤cur.size) (h : cur.extract o (o + s) = cs.toArray) {j : Nat} (hj : j < s) : cur[o + j]? = cs[j]?:=by
  have:=congrArg (fun z=>z[j]?) h
  simp only [Array.getElem?_extract,Zah] at this
  rw [if_pos (by omega)] at this
  exact this
theorem IsT.len {a : Option Addr} {n c : Nat} (h : IsT cells s w (.slice a n c) l) : n = l.length:=by
  obtain ⟨a',c',e⟩:=h.1
  exact congrArg (fun x=>match x with | .slice _ n _=>n | _=>0) e
end Go.Vc
namespace Go.Vc
open Go
variable {P : Program} {ro : Option Nat} {n : Nat} {ops : Array Oper}
def stepE (P : Program) (w0 : World) (ρ : Env) (ds : List Deferred) (w : World) (i : Ins) (k : Value→World→Prop) : Kind→Prop
  | .pure=>insVc P (fun v _=>k v w) ρ [] default i
  | .load=>insVc P (fun v _=>k v w) ρ [] w0 i
  | .step=>insVc P (fun v w'=>Mod (fun _=>False) w0 w'∧k v w') ρ ds w i
def gateE (P : Program) (w0 : World) (ρ : Env) (ds : List Deferred) (w : World) (i : Ins) (k : Value→World→Prop) : Bool→Prop
  | true=>stepE P w0 ρ ds w i k (kindI i)
  | false=>k undef w
def vcE (P : Program) (w0 : World) (ds : List Deferred) : List In→(Env→World→Prop)→Env→World→Prop
  | [],K,ρ,w=>K ρ w
  | ⟨none,d,i⟩ :: l,K,ρ,w=>stepE P w0 ρ ds w i (fun v w'=>vcE P w0 ds l K (updO ρ d v) w') (kindI i)
  | ⟨some (s,want),d,i⟩ :: l,K,ρ,w=>gateE P w0 ρ ds w i (fun v w'=>vcE P w0 ds l K (updO ρ d v) w') (gate (ρ s) want)
theorem loadV_mono {go go' : Value→World→Prop} {w : World} {o : Option Value} (h : loadV go w o) (hk : ∀ v,o = some v→go v w→go' v w) : loadV go' w o:=by
  cases o with
  | none=>exact h.elim
  | some v=>exact hk v rfl h
theorem load_look {w0 : World} {ρ : Env} {i : Ins} {k : Value→Prop} (hi : loadI i = true) (h : insVc P (fun v _=>k v) ρ [] w0 i) : LoadD (Mod (fun _=>False) w0) P ρ i k:=by
  cases i with
  | load1 x =>
    simp only [insVc] at h
    cases hx : ev ρ x with
    | pointer a =>
      rw [hx] at h
      cases a with
      | none=>exact h.elim
      | some a =>
        obtain ⟨b,o,sp⟩:=a
        cases sp with
        | some _=>exact h.elim
        | none =>
          simp only [load1K] at h
          cases hb : w0.heap[b]? with
          | none=>rw [hb] at h; exact h.elim
          | some ob =>
            rw [hb] at h
            cases ob with
            | cells c t f =>
              simp only [loadO] at h
              cases hc : c[o]? with
              | none=>rw [hc] at h; exact h.elim
              | some v=>rw [hc] at h; exact loadD1 hx (fun W hW=>⟨c,t,f,hW.keep hb id,hc⟩) h
            | _=>exact h.elim
    | _=>rw [hx] at h; exact h.elim
  | loadN m x =>
    simp only [insVc] at h
    cases hx : ev ρ x with
    | pointer a =>
      rw [hx] at h
      cases a with
      | none=>exact h.elim
      | some a =>
        obtain ⟨b,o,sp⟩:=a
        cases sp with
        | some _=>exact h.elim
        | none =>
          simp only [loadNK] at h
          cases hb : w0.heap[b]? with
          | none=>rw [hb] at h; exact h.elim
          | some ob =>
            rw [hb] at h
            cases ob with
            | cells c t f =>
              simp only [loadNO] at h
              exact loadDN hx (fun W hW=>⟨c,t,f,hW.keep hb id,h.1,rfl⟩) h.2
            | _=>exact h.elim
    | _=>rw [hx] at h; exact h.elim
  | _=>simp [loadI] at hi
theorem loadO_mono {go go' : Value→World→Prop} (hk : ∀ v w',go v w'→go' v w') {w : World} {o : Nat} {ob : Option Obj} (h : loadO go w o ob) : loadO go' w o ob:=by
  cases ob with
  | none=>exact h.elim
  | some ob =>
    cases ob with
    | cells c t f=>exact loadV_mono h (fun v _ hv=>hk _ _ hv)
    | _=>exact h.elim
theorem insVc_mono {go go' : Value→World→Prop} (hk : ∀ v w',go v w'→go' v w') {ρ : Env} {ds : List Deferred} {w : World} {i : Ins} (h : insVc P go ρ ds w i) : insVc P go' ρ ds w i:=by
  cases i <;> simp only [insVc] at h ⊢
  case mv=>exact hk _ _ h
  case pick c a b=>unfold pickK at h ⊢; split at h <;> first | exact hk _ _ h | exact h.elim
  case alloc=>exact hk _ _ h
  case box=>exact hk _ _ h
  case load1 x=>unfold load1K at h ⊢; split at h <;> first | exact loadO_mono hk h | exact h.elim
  case loadN m x =>
    unfold loadNK at h ⊢
    split at h
    · unfold loadNO at h ⊢; split at h <;> first | exact ⟨h.1,hk _ _ h.2⟩ | exact h.elim
    · exact h.elim
  case store1 x v =>
    unfold storeK at h ⊢
    split at h
    · unfold storeO at h ⊢; split at h <;> first | exact ⟨h.1,hk _ _ h.2⟩ | exact h.elim
    · exact h.elim
  case storeN m x v =>
    unfold storeNK at h ⊢
    split at h
    · unfold storeNO at h ⊢; split at h <;> first | exact ⟨h.1,hk _ _ h.2⟩ | exact h.elim
    · exact h.elim
  case nilc x=>unfold nilK at h ⊢; split at h <;> first | exact hk _ _ h | exact ⟨h.1,hk _ _ h.2⟩ | exact h.elim
  case iop op x y=>unfold iopK at h ⊢; split at h <;> first | exact ⟨h.1,loadV_mono h.2 (fun v _ hv=>hk _ _ hv)⟩ | exact h.elim
  case sop op x y=>unfold sopK at h ⊢; split at h <;> first | exact loadV_mono h (fun v _ hv=>hk _ _ hv) | exact h.elim
  case bop neq x y=>unfold bopK at h ⊢; split at h <;> first | exact hk _ _ h | exact h.elim
  case pnil k' neq x=>unfold pnilK at h ⊢; split at h <;> first | exact hk _ _ h | exact h.elim
  case not x=>unfold notK at h ⊢; split at h <;> first | exact hk _ _ h | exact h.elim
  case conv k' x=>unfold convK at h ⊢; split at h <;> first | exact hk _ _ h | exact h.elim
  case same x=>unfold sameK at h ⊢; split at h <;> first | exact hk _ _ h | exact h.elim
  case mkI t x=>exact hk _ _ h
  case mkF fn f c=>exact hk _ _ h
  case faddr off x=>unfold faddrK at h ⊢; split at h <;> first | exact hk _ _ h | exact h.elim
  case fld1 off x=>unfold fld1K at h ⊢; split at h <;> first | exact loadV_mono h (fun v _ hv=>hk _ _ hv) | exact h.elim
  case fldN off m x=>unfold fldNK at h ⊢; split at h <;> first | exact hk _ _ h | exact h.elim
  case iaddr sz x i=>unfold iaddrK at h ⊢; split at h <;> first | exact ⟨h.1,hk _ _ h.2⟩ | exact h.elim
  case iaddrA len sz x i=>unfold iaddrAK at h ⊢; split at h <;> first | exact ⟨h.1,hk _ _ h.2⟩ | exact h.elim
  case sidx x i=>unfold sidxK at h ⊢; split at h <;> first | exact ⟨h.1,loadV_mono h.2 (fun v _ hv=>hk _ _ hv)⟩ | exact h.elim
  case ext x i=>unfold extK at h ⊢; split at h <;> first | exact loadV_mono h (fun v _ hv=>hk _ _ hv) | exact h.elim
  case lenS x=>unfold lenSK at h ⊢; split at h <;> first | exact hk _ _ h | exact h.elim
  case lenL x=>unfold lenLK at h ⊢; split at h <;> first | exact hk _ _ h | exact h.elim
  case call f args=>exact callK_mono h hk
  case callv x args=>exact callvK_mono h hk
  case inv x name args =>
    unfold invK at h ⊢
    split at h
    · obtain ⟨f,y,h1,h2⟩:=h
      exact ⟨f,y,h1,callK_mono h2 hk⟩
    · exact h.elim
  case build zero parts=>unfold buildK at h ⊢; split at h <;> first | exact hk _ _ h | exact h.elim
  case buildS t len zero parts=>unfold buildSK at h ⊢; split at h <;> first | exact hk _ _ h | exact h.elim
  case slS x lo hi =>
    unfold slSK at h ⊢
    split at h
    · split at h
      · exact ⟨h.1,hk _ _ h.2⟩
      · exact h.elim
    · exact h.elim
  case slL sz x lo hi =>
    unfold slLK at h ⊢
    split at h
    · split at h
      · exact ⟨h.1,hk _ _ h.2⟩
      · exact h.elim
    · exact h.elim
  case slA m sz x lo hi =>
    unfold slAK at h ⊢
    split at h
    · split at h
      · exact ⟨h.1,hk _ _ h.2⟩
      · exact h.elim
    · exact h.elim
  case raw m o=>exact upon_mono hk h
theorem stepD_of_E {w0 : World} {ρ : Env} {ds : List Deferred} {w : World} {i : Ins} {k k' : Value→World→Prop} (h : stepE P w0 ρ ds w i k (kindI i)) (hi : ∀ v w',k v w'→k' v w') : stepD P (Mod (fun _=>False) w0) ρ ds w i k' (kindI i):=by
  unfold kindI at h ⊢
  split
  · rename_i hp
    rw [if_pos hp] at h
    exact insVc_mono (fun v _ hv=>hi v w hv) h
  · rename_i hp
    rw [if_neg hp] at h
    split
    · rename_i hl
      rw [if_pos hl] at h
      exact load_look hl (insVc_mono (fun v _ hv=>hi v w hv) h)
    · rename_i hl
      rw [if_neg hl] at h
      show insVc P (fun v w'=>Mod (fun _=>False) w0 w'∧k' v w') ρ ds w i
      refine insVc_mono (go:=fun v w'=>Mod (fun _=>False) w0 w'∧k v w') ?_ h
      intro v w' hv
      exact ⟨hv.1,hi v w' hv.2⟩
theorem vcD_of_vcE {w0 : World} {ds : List Deferred} {K : Env→World→Prop} : ∀ (l : List In) (ρ : Env) (w : World),vcE P w0 ds l K ρ w→vcD P (Mod (fun _=>False) w0) ds l K ρ w:=by
  intro l
  induction l with
  | nil=>intro ρ w h; exact h
  | cons x l ih =>
    intro ρ w h
    obtain ⟨g,d,i⟩:=x
    cases g with
    | none=>exact stepD_of_E h (fun v w' hv=>ih _ _ hv)
    | some p =>
      obtain ⟨s,want⟩:=p
      simp only [vcE] at h
      simp only [vcD]
      cases hg : gate (ρ s) want with
      | true=>rw [hg] at h; exact stepD_of_E h (fun v w' hv=>ih _ _ hv)
      | false=>rw [hg] at h; exact ih _ _ h
theorem draw_e {id : Nat} {l : List In} {Q : QT} {ρ : Env} {ds : List Deferred} {w : World} (hm : P.follows .mixedOrders = true) (hB : Region.lexB .any ops = true) (hl : compOps P n ops ops.toList = some l)
    (hS : chainB ops (stepsOf l) = true) (h : vcE P w ds l (fun ρ' w'=>Q .normal ρ' ds w') ρ w.drew) : vc P ro n (.draw id ops l) Q ρ ds w :=
  draw_d _ hm hB hl hS (Mod.refl _ _).drew (vcD_of_vcE _ _ _ h)
section
variable {w0 : World} {K : Env→World→Prop} {ρ : Env} {ds : List Deferred} {w : World} {d : Option Nat} {i : Ins} {l : List In} {k : Value→World→Prop}
theorem vcE_nil : vcE P w0 ds [] K ρ w = K ρ w:=nr rfl
theorem vcE_cons : vcE P w0 ds (⟨none,d,i⟩ :: l) K ρ w = stepE P w0 ρ ds w i (fun v w'=>vcE P w0 ds l K (updO ρ d v) w') (kindI i):=nr rfl
theorem vcE_gate {s : Nat} {want : Bool} : vcE P w0 ds (⟨some (s,want),d,i⟩ :: l) K ρ w = gateE P w0 ρ ds w i (fun v w'=>vcE P w0 ds l K (updO ρ d v) w') (gate (ρ s) want):=nr rfl
theorem gateE_true : gateE P w0 ρ ds w i k true = stepE P w0 ρ ds w i k (kindI i):=nr rfl
theorem gateE_false : gateE P w0 ρ ds w i k false = k undef w:=nr rfl
theorem stepE_pure : stepE P w0 ρ ds w i k .pure = insVc P (fun v _=>k v w) ρ [] default i:=nr rfl
theorem stepE_load : stepE P w0 ρ ds w i k .load = insVc P (fun v _=>k v w) ρ [] w0 i:=nr rfl
theorem stepE_step : stepE P w0 ρ ds w i k .step = insVc P (fun v w'=>Mod (fun _=>False) w0 w'∧k v w') ρ ds w i:=nr rfl
end
end Go.Vc
namespace Go.Vc
open Go
variable {P : Program} {n : Nat} {ro : Option Nat} {ops : Array Oper}
def succB (dp : List (List Nat)) : Bool:=(List.range (dp.length - 1)).all fun j=>dp.zipIdx.any fun x=>decide (j < x.2) && x.1.contains j
theorem succB_all {dp : List (List Nat)} (h : succB dp = true) {L : Nat→Bool} (hc : ∀ (j : Nat) d,dp[j]? = some d→L j = true→∀ k ∈ d,L k = true) (hl : ∀ k ∈ (dp[dp.length - 1]?).getD [],L k = true) :
    ∀ (m j : Nat),dp.length - 1 - j = m→j < dp.length - 1→L j = true:=by
  intro m
  induction m using Nat.strongRecOn with
  | _ m ih =>
    intro j hm hj
    have h1:=List.all_eq_true.1 h j (List.mem_range.2 hj)
    obtain ⟨⟨d,p⟩,hmem,hp⟩:=List.any_eq_true.1 h1
    simp only [Zbl,decide_eq_true_eq,Zc] at hp
    have hd:=List.mem_zipIdx_iff_getElem?.1 hmem
    have hplt:=(List.getElem?_eq_some_iff.1 hd).1
    by_cases he : p = dp.length - 1
    · refine hl j ?_
      simp only at hd
      rw [← he,hd]
      exact hp.2
    · exact hc p d hd (ih (dp.length - 1 - p) (by omega) p rfl (by omega)) j hp.2
theorem draw_c (I : (Nat→Bool)→Env→World→Prop) {id : Nat} {l : List In} {dp : List (List Nat)} {Q : QT} {ρ : Env} {ds : List Deferred} {w : World} (hm : P.follows .mixedOrders = true) (hl : compOps P n ops ops.toList = some l) (hdp : depsOf ops = dp)
    (hg : l.all (fun x=>x.g.isNone) = true) (hlt : (dp.zipIdx.all fun x=>x.1.all fun k=>decide (k < x.2)) = true) (hsu : succB dp = true) {N : Nat} (hN : l.length = N + 1) (hNd : dp.length = N + 1) (hNo : ops.size = N + 1)
    (h0 : I (fun _=>false) ρ w.drew)
    (hs : ∀ (L : Nat→Bool) (ρ : Env) (w : World) (i : Nat) (x : In) (d : List Nat),i < N→l[i]? = some x→dp[i]? = some d→L i = false→(∀ k ∈ d,L k = true)→(∀ (j : Nat) d,dp[j]? = some d→L j = true→∀ k ∈ d,L k = true)→I L ρ w→insVc P (fun v w'=>I (fun k=>k == i || L k) (updO ρ x.d v) w') ρ ds w x.i)
    (he : ∀ (L : Nat→Bool) (ρ : Env) (w : World) (x : In),(∀ i,i < N→L i = true)→I L ρ w→l[N]? = some x→insVc P (fun v w'=>Q .normal (updO ρ x.d v) ds w') ρ ds w x.i) : vc P ro n (.draw id ops l) Q ρ ds w:=by
  refine draw_i (fun L ρ' w'=>(∀ (j : Nat) d,dp[j]? = some d→L j = true→∀ k ∈ d,L k = true)∧(L N = false→I L ρ' w')∧(L N = true→Q .normal ρ' ds w')) hm hl hdp hg hlt ⟨fun _ _ _ h=>(Bool.false_ne_true h).elim,fun _=>h0,fun h=>(Bool.false_ne_true h).elim⟩ ?_ ?_
  · rintro L ρ' w' i x d hx hd hL hdeps ⟨hc,hI,hQ⟩
    have hc' : ∀ (j : Nat) d,dp[j]? = some d→(j == i || L j) = true→∀ k ∈ d,(k == i || L k) = true:=by
      intro j d' hj hb k hk
      by_cases hji : j = i
      · subst hji
        rw [hd] at hj
        obtain rfl:=Option.some.inj hj
        rw [hdeps k hk]; simp
      · have : (j == i) = false:=by simpa using hji
        rw [this] at hb
        rw [hc j d' hj hb k hk]; simp
    have hilt : i < N + 1:=by rw [← hN]; exact (List.getElem?_eq_some_iff.1 hx).1
    by_cases hiN : i = N
    · subst hiN
      have hall : ∀ j,j < i→L j = true:=by
        intro j hj
        refine succB_all hsu hc ?_ _ j rfl (by omega)
        intro k hk
        have : dp.length - 1 = i:=by omega
        rw [this,hd] at hk
        exact hdeps k hk
      refine insVc_mono ?_ (he L ρ' w' x hall (hI hL) hx)
      intro v w'' hq
      exact ⟨hc',fun h=>by simp at h,fun _=>hq⟩
    · have hLN : L N = false:=by
        cases h : L N with
        | false=>rfl
        | true =>
          have : L i = true:=by
            refine succB_all hsu hc ?_ _ i rfl (by omega)
            intro k hk
            have e : dp.length - 1 = N:=by omega
            rw [e] at hk
            cases hdn : dp[N]? with
            | none=>rw [hdn] at hk; cases hk
            | some dn=>rw [hdn] at hk; exact hc N dn hdn h k hk
          rw [this] at hL; cases hL
      refine insVc_mono ?_ (hs L ρ' w' i x d (by omega) hx hd hL hdeps hc (hI hLN))
      intro v w'' hi
      have hNi : (N == i || L N) = false:=by
        have : (N == i) = false:=by simpa using fun e=>hiN e.symm
        rw [this,hLN]; rfl
      exact ⟨hc',fun _=>hi,fun h=>by have h2 : (N == i || L N) = true:=h; rw [hNi] at h2; cases h2⟩
  · rintro L ρ' w' hall ⟨_,_,hQ⟩
    exact hQ (hall N (by omega))
end Go.Vc
namespace Go.Vc
open Go
def RegI (fr : List (Nat × Value)) (fs : List (Nat × Nat × Value)) (L : Nat→Bool) (ρ : Env) : Prop :=
  (∀ p ∈ fr,ρ p.1 = p.2)∧(∀ p ∈ fs,L p.1 = true→ρ p.2.1 = p.2.2)
variable {fr : List (Nat × Value)} {fs : List (Nat × Nat × Value)} {L : Nat→Bool} {ρ : Env}
theorem RegI.start (hfr : ∀ p ∈ fr,ρ p.1 = p.2) : RegI fr fs (fun _=>false) ρ:=⟨hfr,fun _ _ h=>(Bool.false_ne_true h).elim⟩
theorem RegI.get (h : RegI fr fs L ρ) {k d : Nat} {v : Value} (hm : (k,d,v) ∈ fs) (hL : L k = true) : ρ d = v:=h.2 _ hm hL
theorem RegI.frm (h : RegI fr fs L ρ) {d : Nat} {v : Value} (hm : (d,v) ∈ fr) : ρ d = v:=h.1 _ hm
theorem reg_old {k j : Nat} (hne : j≠k) (h : (j == k || L j) = true) : L j = true:=by
  have : (j == k) = false:=by simpa using hne
  rw [this] at h; exact h
theorem RegI.put (h : RegI fr fs L ρ) (k d : Nat) (v : Value) (h1 : (fs.map fun p=>(p.1,p.2.1)).all (fun p=>if p.1 == k then p.2 == d else p.2 != d) = true) (hv : ∀ p ∈ fs,p.1 = k→p.2.2 = v)
    (h2 : (fr.map (·.1)).all (· != d) = true) : RegI fr fs (fun j=>j == k || L j) (upd ρ d v):=by
  obtain ⟨hfr,hfs⟩:=h
  refine ⟨fun p hp => ?_,fun p hp hL => ?_⟩
  · have:=List.all_eq_true.1 h2 p.1 (List.mem_map.2 ⟨p,hp,rfl⟩)
    rw [upd_other (by simpa using this)]; exact hfr p hp
  · have h1p:=List.all_eq_true.1 h1 (p.1,p.2.1) (List.mem_map.2 ⟨p,hp,rfl⟩)
    by_cases hk : p.1 = k
    · simp only [hk,beq_self_eq_true,Zab,beq_iff_eq] at h1p
      rw [h1p,upd_same,hv p hp hk]
    · have hkb : (p.1 == k) = false:=by simpa using hk
      simp only [hkb,Bool.false_eq_true,Zae,bne_iff_ne] at h1p
      rw [upd_other h1p]; exact hfs p hp (reg_old hk hL)
theorem RegI.mark (h : RegI fr fs L ρ) (k : Nat) (h1 : (fs.map (·.1)).all (· != k) = true) : RegI fr fs (fun j=>j == k || L j) ρ:=by
  refine ⟨h.1,fun p hp hL=>h.2 p hp (reg_old ?_ hL)⟩
  have:=List.all_eq_true.1 h1 p.1 (List.mem_map.2 ⟨p,hp,rfl⟩)
  simpa using this
section
variable {P : Program} {n : Nat} {go : Value→World→Prop} {ds : List Deferred} {w : World} {o : Oper}
theorem rawK_min2 {s x : Operand} {t tx : TypeId} {k k' : IntKind} {a b : Int} (ho : o.op = .call { callee:=.builtin .min,args:=#[s,x],argTypes:=#[t,tx] })
    (hs : inB n s = true) (hx : inB n x = true) (ha : ev ρ s = .int k a) (hb : ev ρ x = .int k' b) (h : go (.int k (min a b)) w) : RawK P go ρ ds n o w:=by
  unfold RawK
  simp only [execOp,ho,resolve,Sem.run_bind,pure,Sem.run,Result.andThen,invoke,builtin]
  have e : (#[s,x] : Array Operand).map (Vc.mkA n ρ ds).eval = #[.int k a,.int k' b]:=by simp [mkA_eval n ρ ds s hs,mkA_eval n ρ ds x hx,ha,hb]
  rw [e]
  have e2 : (if b < a then b else a) = min a b:=by omega
  simp only [Builtin.min_,List.foldlM_cons,List.foldlM_nil,Sem.run_bind,Builtin.min2,pure,Sem.run,Result.andThen,e2]
  exact h
end
end Go.Vc
namespace Go.Vc
open Go
variable {P : Program}
def GenI (w0 : World) (Own : Nat→Prop) (Fx : World→Prop) (fr : List (Nat × Value)) (fs : List (Nat × Nat × Value)) (a st ta n : Nat) (T : TypeId) (fin : Array Value) (L : Nat→Bool) (ρ : Env) (u : World) : Prop :=
  Mod Own w0 u∧Fx u∧(∀ p ∈ fr,ρ p.1 = p.2)∧(∀ p ∈ fs,L p.1 = true→ρ p.2.1 = p.2.2) ∧
    (L a = true→∃ x cs,ρ ta = .pointer (some ⟨x,0,none⟩)∧w0.heap.size≤x∧u.heap[x]? = some (.cells cs T (0,0))∧cs.size = n∧(L st = true→cs = fin))
variable {w0 : World} {Own : Nat→Prop} {Fx : World→Prop} {fr : List (Nat × Value)} {fs : List (Nat × Nat × Value)} {a st ta n : Nat} {T : TypeId} {fin : Array Value} {L : Nat→Bool} {ρ : Env} {u u' : World}
theorem GenI.start (hm : Mod Own w0 u) (hF : Fx u) (hfr : ∀ p ∈ fr,ρ p.1 = p.2) : GenI w0 Own Fx fr fs a st ta n T fin (fun _=>false) ρ u :=
  ⟨hm,hF,hfr,fun _ _ h=>(Bool.false_ne_true h).elim,fun h=>(Bool.false_ne_true h).elim⟩
theorem GenI.get (h : GenI w0 Own Fx fr fs a st ta n T fin L ρ u) {k d : Nat} {v : Value} (hm : (k,d,v) ∈ fs) (hL : L k = true) : ρ d = v:=h.2.2.2.1 _ hm hL
theorem GenI.frm (h : GenI w0 Own Fx fr fs a st ta n T fin L ρ u) {d : Nat} {v : Value} (hm : (d,v) ∈ fr) : ρ d = v:=h.2.2.1 _ hm
theorem old_of {k j : Nat} (hne : j≠k) (h : (j == k || L j) = true) : L j = true:=by
  have : (j == k) = false:=by simpa using hne
  rw [this] at h; exact h
theorem GenI.put (h : GenI w0 Own Fx fr fs a st ta n T fin L ρ u) (k d : Nat) (v : Value) (h1 : (fs.map fun p=>(p.1,p.2.1)).all (fun p=>if p.1 == k then p.2 == d else p.2 != d) = true) (hv : ∀ p ∈ fs,p.1 = k→p.2.2 = v)
    (h2 : (fr.map (·.1)).all (· != d) = true) (h3 : (d != ta && k != a && k != st) = true) : GenI w0 Own Fx fr fs a st ta n T fin (fun j=>j == k || L j) (upd ρ d v) u:=by
  obtain ⟨hm,hF,hfr,hfs,ha⟩:=h
  simp only [Zbl,bne_iff_ne] at h3
  refine ⟨hm,hF,fun p hp => ?_,fun p hp hL => ?_,fun hL => ?_⟩
  · have:=List.all_eq_true.1 h2 p.1 (List.mem_map.2 ⟨p,hp,rfl⟩)
    rw [upd_other (by simpa using this)]; exact hfr p hp
  · have h1p:=List.all_eq_true.1 h1 (p.1,p.2.1) (List.mem_map.2 ⟨p,hp,rfl⟩)
    by_cases hk : p.1 = k
    · simp only [hk,beq_self_eq_true,Zab,beq_iff_eq] at h1p
      rw [h1p,upd_same,hv p hp hk]
    · have hkb : (p.1 == k) = false:=by simpa using hk
      simp only [hkb,Bool.false_eq_true,Zae,bne_iff_ne] at h1p
      rw [upd_other h1p]; exact hfs p hp (old_of hk hL)
  · obtain ⟨x,cs,e1,e2,e3,e4,e5⟩:=ha (old_of (fun e=>h3.1.2 e.symm) hL)
    exact ⟨x,cs,by rw [upd_other (fun e=>h3.1.1 e.symm)]; exact e1,e2,e3,e4,fun hs=>e5 (old_of (fun e=>h3.2 e.symm) hs)⟩
theorem GenI.world (h : GenI w0 Own Fx fr fs a st ta n T fin L ρ u) (hm : Mod Own u u') (hF : Fx u') (hO : ∀ k,Own k→k < w0.heap.size) : GenI w0 Own Fx fr fs a st ta n T fin L ρ u':=by
  obtain ⟨hm0,_,hfr,hfs,ha⟩:=h
  refine ⟨hm0.trans hm,hF,hfr,hfs,fun hL => ?_⟩
  obtain ⟨x,cs,e1,e2,e3,e4,e5⟩:=ha hL
  exact ⟨x,cs,e1,e2,hm.keep e3 (fun hx=>by have:=hO x hx; omega),e4,e5⟩
theorem GenI.alloc (h : GenI w0 Own Fx fr fs a st ta n T fin L ρ u) (cs : Array Value) (hcs : cs.size = n) (hF : Fx (u.alloc (.cells cs T))) (hst : L st = false) (h1 : (fs.map fun p=>(p.1,p.2.1)).all (fun p=>p.1 != a && p.2 != ta) = true) (h2 : (fr.map (·.1)).all (· != ta) = true) (h3 : (st != a) = true) :
    GenI w0 Own Fx fr fs a st ta n T fin (fun j=>j == a || L j) (upd ρ ta (.pointer (some ⟨u.heap.size,0,none⟩))) (u.alloc (.cells cs T)):=by
  obtain ⟨hm,_,hfr,hfs,ha⟩:=h
  refine ⟨hm.alloc _,hF,fun p hp => ?_,fun p hp hL => ?_,fun _=>⟨u.heap.size,cs,upd_same,hm.size,get_alloc_new _ _,hcs,fun hs => ?_⟩⟩
  · have:=List.all_eq_true.1 h2 p.1 (List.mem_map.2 ⟨p,hp,rfl⟩)
    rw [upd_other (by simpa using this)]; exact hfr p hp
  · have h1p:=List.all_eq_true.1 h1 (p.1,p.2.1) (List.mem_map.2 ⟨p,hp,rfl⟩)
    simp only [Zbl,bne_iff_ne] at h1p
    rw [upd_other h1p.2]; exact hfs p hp (old_of h1p.1 hL)
  · have:=old_of (k:=a) (by simpa using h3) hs
    rw [hst] at this; cases this
theorem GenI.box (h : GenI w0 Own Fx fr fs a st ta n T fin L ρ u) (hL : L a = true) : ∃ x cs,ρ ta = .pointer (some ⟨x,0,none⟩)∧w0.heap.size≤x∧u.heap[x]? = some (.cells cs T (0,0))∧cs.size = n∧(L st = true→cs = fin):=h.2.2.2.2 hL
theorem GenI.store (h : GenI w0 Own Fx fr fs a st ta n T fin L ρ u) (hL : L a = true) {x : Nat} (hx : ρ ta = .pointer (some ⟨x,0,none⟩)) (hfin : fin.size = n) (hF : Fx (set u x (.cells fin T (0,0)))) (h1 : (fs.map fun p=>(p.1,p.2.1)).all (fun p=>p.1 != st) = true) (h3 : (st != a) = true) :
    GenI w0 Own Fx fr fs a st ta n T fin (fun j=>j == st || L j) ρ (set u x (.cells fin T (0,0))):=by
  obtain ⟨hm,_,hfr,hfs,ha⟩:=h
  obtain ⟨x',cs,e1,e2,e3,e4,e5⟩:=ha hL
  have : x' = x:=by rw [e1] at hx; simpa using hx
  subst this
  refine ⟨hm.set (.inl e2),hF,hfr,fun p hp hL => ?_,fun _=>⟨x',fin,e1,e2,get_set_same _ _ _ (lt_of_get e3),hfin,fun _=>rfl⟩⟩
  have h1p:=List.all_eq_true.1 h1 (p.1,p.2.1) (List.mem_map.2 ⟨p,hp,rfl⟩)
  exact hfs p hp (old_of (by simpa using h1p) hL)
theorem setMany_all (cs : Array Value) (l : List Value) (h : cs.size = l.length) : setMany cs 0 l = l.toArray:=by
  have key : ∀ (l : List Value) (o : Nat) (c : Array Value),c.size = o + l.length→(setMany c o l).toList = c.toList.take o ++ l:=by
    intro l
    induction l with
    | nil=>intro o c hc; simp only [setMany,Zbt]; rw [List.take_of_length_le (by rw [Array.length_toList,hc]; simp)]
    | cons v l ih =>
      intro o c hc
      simp only [setMany]
      rw [ih (o + 1) _ (by rw [Array.size_setIfInBounds,hc,List.length_cons]; omega)]
      simp only [Array.toList_setIfInBounds]
      rw [List.take_set,List.take_add_one]
      have ho : o < c.toList.length:=by rw [Array.length_toList,hc,List.length_cons]; omega
      rw [List.getElem?_eq_getElem ho]
      simp only [Option.toList_some]
      rw [List.set_append_right _ _ (by rw [List.length_take]; omega)]
      have : o - (c.toList.take o).length = 0:=by rw [List.length_take]; omega
      rw [this]
      simp
  have:=key l 0 cs (by omega)
  simp only [Zao,Zaa] at this
  exact Array.ext' (by rw [this])
end Go.Vc
