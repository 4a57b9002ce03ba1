import Derived.Test.YtcbacomljnjacaaGreatDoorVoP
import Derived.Lib.OthersKept
set_option linter.unusedSimpArgs false
set_option linter.unusedVariables false
set_option linter.unusedSectionVars false
set_option linter.unnecessarySimpa false
namespace Go.Oct
open Go Go.Vc Go.VrA
set_option maxRecDepth 100000
section
variable {P : Program} {n : Nat} {go : Value→World→Prop} {ρ : Env} {ds : List Deferred} {w : World} {o : Oper}
theorem rawK_range {x : Operand} {t : TypeId} {s : ByteArray} (ho : o.op = .range t x) (hx : inB n x = true) (ht : P.underlying t = some .string) (hv : ev ρ x = .string s)
    (h : go (ptr w.heap.size) (w.alloc (.stringIter s 0))) : RawK P go ρ ds n o w:=by
  unfold RawK
  simp only [execOp,ho,Sem.run_bind,mkA_eval n ρ ds x hx,hv,run_range_string (P:=P) w t s ht,Result.andThen,pure,Sem.run]
  exact h
theorem rawK_next {x : Operand} {v : Value} {w' : World} {b : Bool} (ho : o.op = .next x b) (hx : inB n x = true) (hr : (Instr.next (ev ρ x) b o.type).run P w = .ok v w') (h : go v w') : RawK P go ρ ds n o w:=by
  unfold RawK
  simp only [execOp,ho,Sem.run_bind,mkA_eval n ρ ds x hx,hr,Result.andThen,pure,Sem.run]
  exact h
end
def shapeR (s : ByteArray) : ByteArray :=
  if s.toList == (⟨#[113]⟩ : ByteArray).toList then ⟨#[115]⟩ else if s.toList == (⟨#[99]⟩ : ByteArray).toList then ⟨#[115]⟩ else
  if s.toList == (⟨#[109]⟩ : ByteArray).toList then ⟨#[115,110]⟩ else if s.toList == (⟨#[101]⟩ : ByteArray).toList then ⟨#[110,115,110]⟩ else
  if s.toList == (⟨#[98]⟩ : ByteArray).toList then ⟨#[115,110,115,115]⟩ else ⟨#[]⟩
theorem shape_c (s : ByteArray) (w : World) (K : Value→World→Prop) (h : K (.string (shapeR s)) w) : Ok Proofs.Tryz.prog 257 #[.string s] w K:=by
  refine F257.enter (args:=[.string s]) (by simp) ?_
  unfold c257 r257
  unfold shapeR at h
  simp only [ZB,insVc,sopK,sopV,ne_eq,reduceCtorEq,Zaf,Za]
  refine condP_split ?_ ?_
  · intro h1
    rw [if_pos h1] at h
    simp only [ZB,endK,resK,packed,insVc,Zaa,h1]
    exact h
  intro h1
  rw [if_neg (by rw [h1]; exact Bool.false_ne_true)] at h
  simp only [ZB,insVc,sopK,sopV,ne_eq,Nat.reduceEqDiff]
  refine condP_split ?_ ?_
  · intro h1
    rw [if_pos h1] at h
    simp only [ZB,endK,resK,packed,insVc,Zaa,h1]
    exact h
  intro h1
  rw [if_neg (by rw [h1]; exact Bool.false_ne_true)] at h
  simp only [ZB,insVc,sopK,sopV,ne_eq,Nat.reduceEqDiff]
  refine condP_split ?_ ?_
  · intro h1
    rw [if_pos h1] at h
    simp only [ZB,endK,resK,packed,insVc,Zaa,h1]
    exact h
  intro h1
  rw [if_neg (by rw [h1]; exact Bool.false_ne_true)] at h
  simp only [ZB,insVc,sopK,sopV,ne_eq,Nat.reduceEqDiff]
  refine condP_split ?_ ?_
  · intro h1
    rw [if_pos h1] at h
    simp only [ZB,endK,resK,packed,insVc,Zaa,h1]
    exact h
  intro h1
  rw [if_neg (by rw [h1]; exact Bool.false_ne_true)] at h
  simp only [ZB,insVc,sopK,sopV,ne_eq,Nat.reduceEqDiff]
  refine condP_split ?_ ?_
  · intro h1
    rw [if_pos h1] at h
    simp only [ZB,endK,resK,packed,insVc,Zaa,h1]
    exact h
  intro h1
  rw [if_neg (by rw [h1]; exact Bool.false_ne_true)] at h
  simp only [ZB,endK,resK,packed,insVc,Zaa]
  exact h
def fitsL : List Pt→List UInt8→Bool
  | [],[]=>true
  | p :: l,c :: s=>(p.t == (c == 115)) && fitsL l s
  | _,_=>false
def fitsR (l : List Pt) (s : ByteArray) : Bool:=decide (s.size≠0) && fitsL l s.data.toList
theorem fitsL_len : ∀ (l : List Pt) (s : List UInt8),fitsL l s = true→l.length = s.length:=by
  intro l
  induction l with
  | nil=>intro s h; cases s with | nil=>rfl | cons=>cases h
  | cons p l ih =>
    intro s h
    cases s with
    | nil=>cases h
    | cons c s=>simp only [fitsL,Zbl] at h; simp [ih s h.2]
theorem fits_c (l : List Pt) (s : ByteArray) (v : Value) (w : World) (K : Value→World→Prop) (hv : ∃ a c,v = .slice a l.length c) (hrow : l≠[]→RowAt w v 220 3 Pt.cells l) (hl : l.length < 2 ^ 63) (hs : s.size < 2 ^ 40)
    (ha : ∀ i (h : i < s.size),(s[i]'h).toNat < 128)
    (h : ∀ w',Mod (fun _=>False) w w'→K (.bool (fitsR l s)) w') :
    Ok Proofs.Tryz.prog 256 #[v,.string s] w K:=by
  obtain ⟨a,c,rfl⟩:=hv
  refine F256.enter (args:=[_,.string s]) (by simp) ?_
  unfold c256 r256
  have hemp : (s.toList == (⟨#[]⟩ : ByteArray).toList) = decide (s.size = 0):=by
    have e : s.toList = s.data.toList:=ByteArray.toList_eq s
    have e2 : (⟨#[]⟩ : ByteArray).toList = []:=ByteArray.toList_eq _
    rw [e,e2]
    by_cases hz : s.size = 0
    · have : s.data.toList = []:=by apply List.eq_nil_of_length_eq_zero; rw [Array.length_toList]; exact hz
      rw [this]; simp [hz]
    · have : s.data.toList≠[]:=by intro x; apply hz; show s.data.size = 0; rw [← Array.length_toList,x]; rfl
      rw [decide_eq_false hz,beq_eq_false_iff_ne]
      exact this
  simp only [ZB,insVc,iopK,iopV,lenSK,lenLK,ne_eq,Nat.reduceEqDiff,reduceCtorEq,Zaf,Za,Zag]
  by_cases hn : ((l.length : Int) != (s.size : Int)) = true
  · have hne : l.length≠s.size:=by intro e; rw [e] at hn; simp at hn
    have hf : fitsR l s = false:=by
      unfold fitsR
      cases hx : fitsL l s.data.toList with
      | false=>simp
      | true=>have:=fitsL_len _ _ hx; rw [Array.length_toList] at this; exact absurd this hne
    rw [hf] at h
    simp only [ZB,endK,resK,packed,insVc,pickK,ne_eq,Nat.reduceEqDiff,Zaa,Zab,hn]
    exact h w (Mod.refl _ _)
  · have hn' : ((l.length : Int) != (s.size : Int)) = false:=by simpa using hn
    have hlen : l.length = s.size:=by have : (l.length : Int) = s.size:=by simpa using hn'
                                      omega
    simp only [ZB,insVc,pickK,sopK,sopV,ne_eq,Nat.reduceEqDiff,Zaf,Za,Zag,Zae,hn',hemp]
    refine condP_split ?_ ?_
    · intro hz
      have hz' : s.size = 0:=by simpa using hz
      have hf : fitsR l s = false:=by unfold fitsR; simp [hz']
      rw [hf] at h
      simp only [ZB,endK,resK,packed,insVc,Zaa]
      exact h w (Mod.refl _ _)
    intro hz
    have hz' : s.size≠0:=by simpa using hz
    have hfr : fitsR l s = fitsL l s.data.toList:=by unfold fitsR; simp [hz']
    rw [hfr] at h
    obtain ⟨g,off,cap,cur,e,hg,hcur⟩:=hrow (by rintro rfl; simp at hlen; omega)
    simp only [Value.slice.injEq] at e
    obtain ⟨rfl,_,rfl⟩:=e
    simp only [ZB,insVc,ne_eq,Nat.reduceEqDiff,Zaf,Za,Zag]
    refine rawK_range (s:=s) rfl rfl tStr (by simp only [ZB]) ?_
    simp only [ZB]
    refine vc_loop (fun m ρ ds w'=>ds = []∧ρ 0 = .slice (some ⟨g,off,none⟩) l.length c∧ρ 17 = ptr w.heap.size∧Mod (fun _=>False) w w' ∧
      ∃ i : Nat,i + m = s.size∧w'.heap[w.heap.size]? = some (.stringIter s i)∧fitsL l s.data.toList = fitsL (l.drop i) (s.data.toList.drop i)) s.size ?_ ?_
    · exact ⟨rfl,by simp only [ZB,ne_eq,reduceCtorEq,Zaf,Za],by simp only [ZB],(Mod.refl _ _).alloc _,0,by simp,get_alloc_new _ _,rfl⟩
    · rintro m ρ ds w1 ⟨rfl,h0,h17,hm1,i,him,hit,hfl⟩
      simp only [ZB,insVc]
      by_cases hi : i < s.size
      · refine rawK_next rfl rfl (by simp only [ZB,h17]; exact Lib.run_next_ascii_at w1 w.heap.size s i _ hit hi (ha i hi)) ?_
        have hw2 : w1.iterAt w.heap.size s (i + 1) = Vc.set w1 w.heap.size (.stringIter s (i + 1)):=rfl
        rw [hw2]
        have hm2 : Mod (fun _=>False) w (Vc.set w1 w.heap.size (.stringIter s (i + 1))):=hm1.set (.inl (Nat.le_refl _))
        obtain ⟨p,hp⟩ : ∃ p,l[i]? = some p:=⟨_,List.getElem?_eq_getElem (by omega)⟩
        obtain ⟨hlt,hpe⟩:=List.getElem?_eq_some_iff.1 hp
        obtain ⟨hsz,hex⟩:=row_at (s:=3) (cells:=Pt.cells) (fun _=>rfl) hcur hp (by decide)
        have hcell : cur[off + i * 3]? = some (.bool p.t):=by
          have h0' : (cur.extract (off + i * 3) (off + i * 3 + 3))[0]? = some (.bool p.t):=by rw [hex]; rfl
          rw [Array.getElem?_extract] at h0'
          have h1' : 0 < min (off + i * 3 + 3) cur.size - (off + i * 3)∧cur[off + i * 3]? = some (.bool p.t):=by simpa using h0'
          exact h1'.2
        have hgs:=hm2.keep hg id
        simp only [ZB,insVc,load1K,iopK,iopV,bopK,faddrK,iaddrK,extK,ne_eq,Nat.reduceEqDiff,reduceCtorEq,Za,Zag,Zah,Zab,Zbj,h0,hgs,hcell]
        have hdrop : fitsL l s.data.toList = ((p.t == (s[i] == 115)) && fitsL (l.drop (i + 1)) (s.data.toList.drop (i + 1))):=by
          rw [hfl,List.drop_eq_getElem_cons hlt,hpe,List.drop_eq_getElem_cons (show i < s.data.toList.length by rw [Array.length_toList]; exact hi)]
          rfl
        have hcmp : (((s[i].toNat : Nat) : Int) == 115) = (s[i] == 115):=by
          by_cases e : s[i] = 115
          · rw [e]; rfl
          · have : s[i].toNat≠115:=fun x=>e (UInt8.toNat_inj.1 x)
            have e1 : (((s[i].toNat : Nat) : Int) == 115) = false:=by rw [beq_eq_false_iff_ne]; omega
            rw [e1]; simpa using e
        refine ⟨⟨by omega,by omega⟩, ?_⟩
        rw [hcmp]
        refine condP_split ?_ ?_
        · intro hx
          have hx' : (p.t == (s[i] == 115)) = false:=by
            cases hpt : p.t <;> cases hsc : (s[i] == 115) <;> rw [hpt,hsc] at hx <;> first | rfl | cases hx
          rw [hdrop,hx',Bool.false_and] at h
          simp only [ZB,endK,resK,packed,insVc,Zaa]
          exact h _ hm2
        · intro hx
          have hx' : (p.t == (s[i] == 115)) = true:=by
            cases hpt : p.t <;> cases hsc : (s[i] == 115) <;> rw [hpt,hsc] at hx <;> first | rfl | cases hx
          simp only [ZB,ne_eq,Nat.reduceEqDiff,reduceCtorEq,h0,h17]
          refine ⟨m - 1,by omega,hm2,i + 1,by omega,get_set_same _ _ _ (lt_of_get hit), ?_⟩
          rw [hdrop,hx',Bool.true_and]
      · refine rawK_next rfl rfl (by simp only [ZB,h17]; exact Lib.run_next_end_at w1 w.heap.size s i _ hit hi) ?_
        simp only [ZB,endK,resK,packed,insVc,extK,Za,Zah,Zaa]
        have hf1 : fitsL l s.data.toList = true:=by
          rw [hfl,List.drop_of_length_le (by omega),List.drop_of_length_le (by rw [Array.length_toList]; exact Nat.le_of_not_lt hi)]
          rfl
        rw [hf1] at h
        exact h w1 hm1
end Go.Oct
