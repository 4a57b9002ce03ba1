import Derived.Test.YtcbacomljnjacaaGreatDoorVoL
set_option linter.unusedSimpArgs false
set_option linter.unusedVariables false
set_option linter.unusedSectionVars false
set_option linter.unnecessarySimpa false
namespace Go.Oct
open Go Go.Vc Go.VrA
set_option maxRecDepth 100000
def Sto.next {σ : Type} (St : Sto σ) (s : σ) (name : ByteArray) : (Nat × Int) × σ :=
  if (counterK name).2≠0 then ((0,(counterK name).2),s) else
  let g:=St.get s (counterK name).1
  if g.1.2.2≠0 then ((0,g.1.2.2),g.2) else
  let r:=if g.1.2.1 = true then cread g.1.1 else (0,0)
  if r.2≠0 then ((0,r.2),g.2) else
  if r.1 = 18446744073709551615 then ((0,8),g.2) else
  let p:=St.put g.2 (counterK name).1 (cbytes (r.1 + 1))
  if p.1≠0 then ((0,p.1),p.2) else ((r.1 + 1,0),p.2)
theorem cread_lt (s : ByteArray) : (cread s).1 < 2 ^ 64:=by
  unfold cread
  simp only []
  split
  · simp
  · exact num_lt _
theorem next_c {σ : Type} (St : Sto σ) (s : σ) (name : ByteArray) (m : Int) (w : World) (K : Value→World→Prop) (hAt : St.At s w) (hg : Gl m w) (hs : name.size < 4294967281)
    (hv : (St.get s (counterK name).1).1.1.size < 2 ^ 60) (hf : St.fit (St.get s (counterK name).1).2)
    (h : ∀ w',Mod St.own w w'→St.At (St.next s name).2 w'→K (.tuple #[.int .u64 ((St.next s name).1.1 : Nat),.int .i64 (St.next s name).1.2]) w') :
    Ok Proofs.Tryz.prog 235 #[.iface St.t St.v,.string name] w K:=by
  refine F235.enter (args:=[.iface St.t St.v,.string name]) (by simp) ?_
  unfold c235 r235
  simp only [ZB,insVc,ne_eq,Nat.reduceEqDiff,Zaf,Zad,Zac,Za,Zag]
  refine counter_c name m w _ hg hs ?_
  intro w1 hm1
  have hA1:=St.keep0 hAt hm1
  simp only [ZB,insVc,iopK,iopV,extK,ne_eq,Nat.reduceEqDiff,reduceCtorEq,Za,Zag,Zah]
  unfold Sto.next at h
  refine condP_split ?_ ?_
  · intro he
    have he' : (counterK name).2≠0:=by simpa using he
    rw [if_pos he'] at h
    simp only [ZB,endK,resK,packed,insVc,ne_eq,Nat.reduceEqDiff,Zaa,Zav]
    exact h w1 (hm1.mono (fun _ _ x=>x.elim)) hA1
  · intro he
    have he' : (counterK name).2 = 0:=by simpa using he
    rw [if_neg (by simpa using he')] at h
    simp only [ZB,insVc,invK,ne_eq,Nat.reduceEqDiff,reduceCtorEq,Zaf,Zad,Zac,Za]
    refine St.getOk s (counterK name).1 w1 _ hA1 (keyL_size _ _ (by simp)) ?_
    intro w2 hm2 hA2
    have hm12 : Mod St.own w w2:=(hm1.mono (fun _ _ x=>x.elim)).trans hm2
    revert h hA2 hv hf
    generalize (St.get s (counterK name).1) = g
    intro hv hf h hA2
    simp only [ZB,insVc,iopK,iopV,extK,ne_eq,Nat.reduceEqDiff,reduceCtorEq,Za,Zag,Zah]
    refine condP_split ?_ ?_
    · intro hc
      have hc' : g.1.2.2≠0:=by simpa using hc
      simp only [if_pos hc'] at h
      simp only [ZB,endK,resK,packed,insVc,ne_eq,Nat.reduceEqDiff,Zaa,Zav]
      exact h w2 hm12 hA2
    · intro hc
      have hc' : g.1.2.2 = 0:=by simpa using hc
      simp only [if_neg (show ¬ g.1.2.2≠0 by simpa using hc')] at h
      simp only [ZB,insVc,ne_eq,Nat.reduceEqDiff]
      cases hk : g.1.2.1 with
      | false =>
        simp only [hk,Bool.false_eq_true,Zae,ne_eq,not_true_eq_false,Nat.reduceEqDiff] at h
        simp only [ZB,insVc,iopK,iopV,ne_eq,Nat.reduceEqDiff,reduceCtorEq,Int.reduceBEq]
        have e01 : IntKind.u64.wrap (0 + 1) = ((0 + 1 : Nat) : Int):=by decide
        have e02 : IntKind.u64.wrap 1 = ((0 + 1 : Nat) : Int):=by decide
        refine draw_d (fun _=>True) (by kernel_rfl) (by kernel_rfl) (by kernel_rfl) (by kernel_rfl) trivial ?_
        simp only [ZB,insVc,nilK,nilM,iopK,iopV,invK,ne_eq,Nat.reduceEqDiff,reduceCtorEq,Zaf,Zad,Zac,Za,Zah,Zab,Zae,Int.reduceAdd,pureI,vcD_nil,vcD_cons,stepD_pure,stepD_step,kindI,loadI,St.putNil,implies_true]
        refine counters_c _ _ ?_
        intro w4 cv hm4 hC4
        simp only [Nat.zero_add,e02]
        refine cbytes_c cv _ (0 + 1) w4 _ hC4 (by omega) ?_
        intro w5 hm5
        have hm25 : Mod (fun _=>False) w2 w5:=((Mod.refl _ w2).drew.trans hm4).trans hm5
        refine St.putOk g.2 (counterK name).1 (cbytes (0 + 1)) w5 _ (St.keep0 hA2 hm25) hf ?_
        intro w6 hm6 hA6
        have hm6' : Mod St.own w w6:=(hm12.trans (hm25.mono (fun _ _ x=>x.elim))).trans hm6
        simp only [true_and,Nat.zero_add]
        refine condP_split ?_ ?_
        · intro hp
          have hp' : (St.put g.2 (counterK name).1 (cbytes (0 + 1))).1≠0:=by simpa using hp
          simp only [if_pos hp'] at h
          simp only [ZB,endK,resK,packed,insVc,ne_eq,Nat.reduceEqDiff,Zaa,Zav]
          exact h w6 hm6' hA6
        · intro hp
          have hp' : (St.put g.2 (counterK name).1 (cbytes (0 + 1))).1 = 0:=by simpa using hp
          simp only [if_neg (show ¬ (St.put g.2 (counterK name).1 (cbytes (0 + 1))).1≠0 by simpa using hp')] at h
          simp only [ZB,endK,resK,packed,insVc,iopK,iopV,ne_eq,Nat.reduceEqDiff,reduceCtorEq,Zaa,Zav,Int.reduceAdd,e02]
          exact h w6 hm6' hA6
      | true =>
        simp only [hk,Zab] at h
        simp only [ZB,insVc,Zac]
        refine counters_c _ _ ?_
        intro w7 cv7 hm7 hC7
        simp only [ZB,insVc,ne_eq,Nat.reduceEqDiff,Zad,Zac]
        refine cread_c cv7 _ g.1.1 w7 _ hC7 hv ?_
        intro w8 hm8
        have hm28:=hm7.trans hm8
        have hlt:=cread_lt g.1.1
        revert h hlt
        generalize cread g.1.1 = r
        intro h hlt
        simp only [ZB,insVc,iopK,iopV,extK,ne_eq,Nat.reduceEqDiff,reduceCtorEq,Za,Zag,Zah]
        refine condP_split ?_ ?_
        · intro hr
          have hr' : r.2≠0:=by simpa using hr
          simp only [if_pos hr'] at h
          simp only [ZB,endK,resK,packed,insVc,ne_eq,Nat.reduceEqDiff,Zaa,Zav]
          exact h w8 (hm12.trans (hm28.mono (fun _ _ x=>x.elim))) (St.keep0 hA2 hm28)
        intro hr
        have hr' : r.2 = 0:=by simpa using hr
        simp only [if_neg (show ¬ r.2≠0 by simpa using hr')] at h
        simp only [ZB,insVc,iopK,iopV,ne_eq,Nat.reduceEqDiff,reduceCtorEq]
        refine condP_split ?_ ?_
        · intro hx
          have hx' : r.1 = 18446744073709551615:=by have:=eq_of_beq hx; omega
          simp only [if_pos hx'] at h
          simp only [ZB,endK,resK,packed,insVc,ne_eq,Nat.reduceEqDiff,Zaa,Zav]
          exact h w8 (hm12.trans (hm28.mono (fun _ _ x=>x.elim))) (St.keep0 hA2 hm28)
        intro hx
        have hx' : r.1≠18446744073709551615:=by
          intro e
          rw [e] at hx
          simp at hx
        simp only [if_neg hx'] at h
        simp only [ZB]
        have e01 : IntKind.u64.wrap ((r.1 : Int) + 1) = ((r.1 + 1 : Nat) : Int):=by rw [IntKind.wrap_u64]; omega
        refine draw_d (fun _=>True) (by kernel_rfl) (by kernel_rfl) (by kernel_rfl) (by kernel_rfl) trivial ?_
        simp only [ZB,insVc,nilK,nilM,iopK,iopV,invK,ne_eq,Nat.reduceEqDiff,reduceCtorEq,Zaf,Zad,Zac,Za,Zah,Zab,Zae,pureI,vcD_nil,vcD_cons,stepD_pure,stepD_step,kindI,loadI,St.putNil,implies_true]
        refine counters_c _ _ ?_
        intro w4 cv hm4 hC4
        simp only [e01]
        refine cbytes_c cv _ (r.1 + 1) w4 _ hC4 (by omega) ?_
        intro w5 hm5
        have hm25 : Mod (fun _=>False) w2 w5:=((hm28).drew.trans hm4).trans hm5
        refine St.putOk g.2 (counterK name).1 (cbytes (r.1 + 1)) w5 _ (St.keep0 hA2 hm25) hf ?_
        intro w6 hm6 hA6
        have hm6' : Mod St.own w w6:=(hm12.trans (hm25.mono (fun _ _ x=>x.elim))).trans hm6
        simp only [true_and]
        refine condP_split ?_ ?_
        · intro hp
          have hp' : (St.put g.2 (counterK name).1 (cbytes (r.1 + 1))).1≠0:=by simpa using hp
          simp only [if_pos hp'] at h
          simp only [ZB,endK,resK,packed,insVc,ne_eq,Nat.reduceEqDiff,Zaa,Zav]
          exact h w6 hm6' hA6
        · intro hp
          have hp' : (St.put g.2 (counterK name).1 (cbytes (r.1 + 1))).1 = 0:=by simpa using hp
          simp only [if_neg (show ¬ (St.put g.2 (counterK name).1 (cbytes (r.1 + 1))).1≠0 by simpa using hp')] at h
          simp only [ZB,endK,resK,packed,insVc,iopK,iopV,ne_eq,Nat.reduceEqDiff,reduceCtorEq,Zaa,Zav,e01]
          exact h w6 hm6' hA6
end Go.Oct
