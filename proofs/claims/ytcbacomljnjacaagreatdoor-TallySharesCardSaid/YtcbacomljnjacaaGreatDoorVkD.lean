import Derived.Test.YtcbacomljnjacaaGreatDoorVkC
set_option linter.unusedSimpArgs false
set_option linter.unusedVariables false
set_option linter.unusedSectionVars false
set_option linter.unnecessarySimpa false
namespace Go.Oct
open Go Go.Vc Go.VrA Go.VrI
set_option maxRecDepth 100000
def Cm.err (c : Cm) : Int :=
  if ¬ (1≤c.kind∧c.kind≤13) then 11 else if (!eqCm c.only c) = true∨c.b.kind < 0∨c.b.kind > 255 then 4 else if c.long = true then 5 else 0
def Cm.bytes (c : Cm) : ByteArray:=(frm c.kind.toNat).data.toList.foldl (fun s f=>s ++ fieldB c f.toNat) (big c.kind.toNat 1)
theorem fieldB_size (c : Cm) (f : Nat) (h : c.long = false) : (fieldB c f).size≤40000:=by
  unfold Cm.long at h
  simp only [Bool.or_eq_false_iff,decide_eq_false_iff_not] at h
  unfold fieldB
  repeat' split
  all_goals simp only [Zbs,textB_size,big_size]
  all_goals omega
def BytesI (c : Cm) (w : World) (s : ByteArray) (ib : Nat) (m : Nat) (ρ : Env) (ds : List Deferred) (u : World) : Prop :=
  ∃ pos,pos≤s.size∧m = s.size - pos∧ds = []∧(ρ 1 = ptr w.heap.size∧ρ 40 = ptr ib∧ρ 4 = .string ((s.data.toList.take pos).foldl (fun s f=>s ++ fieldB c f.toNat) (big c.kind.toNat 1)))∧Mod (fun _=>False) w u ∧
    u.heap[w.heap.size]? = some (.cells c.cells.toArray 126 (0,0))∧u.heap[ib]? = some (.stringIter s pos)
theorem acc_size (c : Cm) (hl : c.long = false) : ∀ (l : List UInt8) (a : ByteArray),(l.foldl (fun s f=>s ++ fieldB c f.toNat) a).size≤a.size + l.length * 40000:=by
  intro l
  induction l with
  | nil=>intro a; simp
  | cons b r ih =>
    intro a
    rw [List.foldl_cons]
    refine Nat.le_trans (ih _) ?_
    rw [ByteArray.size_append,List.length_cons]
    have:=fieldB_size c b.toNat hl
    omega
theorem bytes24_c (c : Cm) (w : World) (K : Value→World→Prop) (hc : c.fine) (hf : Forms w)
    (h : ∀ w',Mod (fun _=>False) w w'→K (.tuple #[.string (if c.err = 0 then c.bytes else e0),.int .i64 c.err]) w') : Ok Proofs.Tryz.prog 74 #[c.val] w K:=by
  refine F74.enter (args:=[c.val]) (by simp) ?_
  unfold c74 r74
  obtain ⟨w0,hw0⟩ : ∃ w0,w0 = w.alloc (.cells #[.int .i64 c.kind,.string c.q.name,.int .u32 c.q.most,.int .u64 c.q.ttl,.int .u32 c.q.tries,.string c.q.dead,.string c.b.ex,.int .i64 c.b.kind,.string c.b.key,.string c.b.q,.string c.ex,.string c.key,.string c.body,.int .u64 c.id,.int .u64 c.token,.int .u64 c.n,.int .u64 c.time,.bool c.dead] 126):=⟨_,rfl⟩
  have hm0 : Mod (fun _=>False) w w0:=by rw [hw0]; exact (Mod.refl _ _).alloc _
  have t0 : w0.heap[w.heap.size]? = some (.cells #[.int .i64 c.kind,.string c.q.name,.int .u32 c.q.most,.int .u64 c.q.ttl,.int .u32 c.q.tries,.string c.q.dead,.string c.b.ex,.int .i64 c.b.kind,.string c.b.key,.string c.b.q,.string c.ex,.string c.key,.string c.body,.int .u64 c.id,.int .u64 c.token,.int .u64 c.n,.int .u64 c.time,.bool c.dead] 126 (0,0)):=by rw [hw0]; exact get_alloc_new _ _
  simp only [ZB,insVc,load1K,faddrK,Value.cells,ne_eq,Nat.reduceEqDiff,Zaf,Zad,Zac,Za,Zah,Zab,get_alloc,Nat.reduceEqDiff,Cm.val,Cm.cells]
  rw [← hw0]
  clear hw0
  refine known_c c.kind w0 _ ?_
  by_cases hk : 1≤c.kind∧c.kind≤13
  · rw [decide_eq_true hk]
    obtain ⟨k,hkk⟩ : ∃ k : Nat,c.kind = (k : Int):=⟨c.kind.toNat,by omega⟩
    have hkn : c.kind.toNat = k:=by omega
    simp only [ZB,insVc,notK]
    refine draw_e (by kernel_rfl) (by kernel_rfl) (by kernel_rfl) (by kernel_rfl) ?_
    simp only [ZB,insVc,pickK,loadNK,ne_eq,Nat.reduceEqDiff,Nat.reduceAdd,Nat.reduceLeDiff,Zad,Zac,Zai,Zaj,Zak,Zab,Zae,Zaq,Zap,Zar,Zao,Zas,Zat,pureI,kindI,loadI,vcE_nil,vcE_cons,vcE_gate,stepE_pure,stepE_load,stepE_step,t0]
    refine only_c c w0.drew _ hk (hf.mod0 (hm0.trans (Mod.refl _ _).drew)) ?_
    intro w1 hm1
    have m1 : Mod (fun _=>False) w0 w1:=(Mod.refl _ w0).drew.trans hm1
    refine ⟨m1, ?_⟩
    refine rawK_neq_agg (xs:=c.only.cells.toArray) (ys:=c.cells.toArray) rfl rfl rfl (by simp only [ZB,ne_eq,Nat.reduceEqDiff] <;> rfl) (by simp only [ZB] <;> rfl) (by kernel_rfl) (eqr_cm c.only c) ?_
    refine ⟨m1, ?_⟩
    have fin : ∀ e : Int,c.err = e→e≠0→K (.tuple #[.string ⟨#[]⟩,.int .i64 e]) w1:=by
      intro e he hne
      have:=h _ (hm0.trans m1)
      rw [he,if_neg hne] at this
      exact this
    by_cases c1 : (!eqCm c.only c) = true
    · simp only [ZB,endK,resK,packed,insVc,ne_eq,Nat.reduceEqDiff,Zaa,Zav,Zab,gateE_false,c1]
      exact fin 4 (by unfold Cm.err; rw [if_neg (fun hh=>hh hk),if_pos (.inl c1)]) (by decide)
    have c1' : (!eqCm c.only c) = false:=by simpa using c1
    by_cases c2 : c.b.kind < 0
    · simp only [ZB,endK,resK,packed,insVc,load1K,iopK,iopV,faddrK,ne_eq,Nat.reduceEqDiff,Nat.reduceAdd,reduceCtorEq,Za,Zag,Zah,Zaa,Zav,Zab,Zae,pureI,kindI,loadI,gateE_true,gateE_false,stepE_pure,stepE_load,c1',c2,t0]
      exact fin 4 (by unfold Cm.err; rw [if_neg (fun hh=>hh hk),if_pos (.inr (.inl c2))]) (by decide)
    by_cases c3 : c.b.kind > 255
    · simp only [ZB,endK,resK,packed,insVc,load1K,iopK,iopV,faddrK,ne_eq,Nat.reduceEqDiff,Nat.reduceAdd,reduceCtorEq,Za,Zag,Zah,Zaa,Zav,Zab,Zae,pureI,kindI,loadI,gateE_true,stepE_pure,stepE_load,c1',c2,c3,t0]
      exact fin 4 (by unfold Cm.err; rw [if_neg (fun hh=>hh hk),if_pos (.inr (.inr c3))]) (by decide)
    simp only [ZB,insVc,load1K,loadNK,iopK,iopV,faddrK,ne_eq,Nat.reduceEqDiff,Nat.reduceAdd,reduceCtorEq,Za,Zag,Zah,Zab,Zae,pureI,kindI,loadI,gateE_true,stepE_pure,stepE_load,c1',c2,c3,t0]
    have t1:=m1.keep t0 id
    simp only [ZB,insVc,Nat.reduceAdd,Nat.reduceLeDiff,Zad,Zac,Zai,Zaj,Zak,Zaq,Zap,Zar,Zao,Zas,Zat,t1]
    refine long_c c w1 _ ?_
    intro w2 hm2
    have m2:=m1.trans hm2
    have t2:=m2.keep t0 id
    have h4 : ¬ ((!eqCm c.only c) = true∨c.b.kind < 0∨c.b.kind > 255):=by rintro (x | x | x); exact c1 x; exact c2 x; exact c3 x
    cases hl : c.long with
    | true =>
      have he : c.err = 5:=by unfold Cm.err; rw [if_neg (fun hh=>hh hk),if_neg h4,if_pos hl]
      simp only [ZB,endK,resK,packed,insVc,ne_eq,Nat.reduceEqDiff,Zaa,Zav]
      have:=h _ (hm0.trans m2)
      rw [he] at this
      exact this
    | false =>
      have he : c.err = 0:=by unfold Cm.err; rw [if_neg (fun hh=>hh hk),if_neg h4,if_neg (by rw [hl]; decide)]
      rw [he,if_pos rfl] at h
      have hwr : IntKind.u8.wrap c.kind = ((c.kind.toNat : Nat) : Int):=by
        have e : IntKind.u8.wrap c.kind = c.kind % 256:=by rfl
        rw [e]; omega
      simp only [ZB,insVc,load1K,convK,faddrK,ne_eq,Nat.reduceEqDiff,Zad,Zac,Za,Zah,t2,hwr]
      refine wone_c c.kind.toNat w2 _ (by omega) ?_
      intro w3 hm3
      have m3:=m2.trans hm3
      have t3:=m3.keep t0 id
      obtain ⟨ft,ff,hfw⟩:=hf.mod0 (hm0.trans m3)
      have hk14 : k < 14:=by omega
      have hr : (0 : Int)≤(k : Int)∧(k : Int) < ((14 : Nat) : Int):=by omega
      have hfa:=frmV_at k hk14
      have hasc:=frm_ascii k hk14
      have hfs:=frm_size k hk14
      have hby : c.bytes = (frm k).data.toList.foldl (fun s f=>s ++ fieldB c f.toNat) (big c.kind.toNat 1):=by unfold Cm.bytes; rw [hkn]
      rw [hby] at h
      obtain ⟨s,hs⟩ : ∃ s,s = frm k:=⟨_,rfl⟩
      rw [← hs] at h hfa hasc hfs
      simp only [ZB,insVc,load1K,faddrK,iaddrAK,ne_eq,Nat.reduceEqDiff,Za,Zah,Zbj,Zbm,t3,hkk,hfw,hr,hfa]
      refine Go.Vc.rawK_range (s:=s) rfl rfl (by kernel_rfl) (by simp only [ZB]) ?_
      have hw3 : w.heap.size < w3.heap.size:=lt_of_get t3
      simp only [ZB]
      refine vc_loop (BytesI c w s w3.heap.size) s.size ?_ ?_
      · refine ⟨0,Nat.zero_le _,rfl,rfl,⟨by simp only [ZB,ne_eq,Nat.reduceEqDiff],by simp only [ZB], ?_⟩,(hm0.trans m3).alloc _, ?_,get_alloc_new _ _⟩
        · simp only [ZB,ne_eq,Nat.reduceEqDiff,Zbb,Zao,hkn,Zbb]
        · exact (((Mod.refl (fun _=>False) w3).alloc _).keep t3 id)
      · rintro m ρ ds u ⟨pos,hpos,rfl,rfl,⟨r1,r40,r4⟩,hmu,u0,u1⟩
        obtain ⟨a,ha⟩ : ∃ a,a = (s.data.toList.take pos).foldl (fun s f=>s ++ fieldB c f.toNat) (big c.kind.toNat 1):=⟨_,rfl⟩
        rw [← ha] at r4
        have has : a.size≤1 + 4 * 40000:=by
          rw [ha]
          refine Nat.le_trans (acc_size c hl _ _) ?_
          rw [big_size,List.length_take]
          have : min pos s.data.toList.length≤4:=by rw [Array.length_toList]; show min pos s.size≤4; omega
          omega
        by_cases hlt : pos < s.size
        · obtain ⟨b,hb⟩ : ∃ b,s.data[pos]? = some b:=⟨_,Array.getElem?_eq_getElem hlt⟩
          have hba:=hasc b (by have:=List.mem_of_getElem? (l:=s.data.toList) (i:=pos) (a:=b) (by simpa using hb); exact this)
          have htk:=take_snoc s pos b hb
          have hfo : (s.data.toList.take (pos + 1)).foldl (fun s f=>s ++ fieldB c f.toNat) (big c.kind.toNat 1) = a ++ fieldB c b.toNat:=by rw [htk,List.foldl_append,ha]; rfl
          simp only [ZB,insVc]
          refine Go.Vc.rawK_next (s:=s) (pos:=pos) (b:=b) rfl rfl (by simp only [ZB]; exact r40) u1 hb hba ?_
          have hms : Mod (fun k=>k = w3.heap.size) u (Vc.set u w3.heap.size (.stringIter s (pos + 1))):=(Mod.refl _ _).set (.inr rfl)
          have v0:=hms.keep u0 (by omega)
          have v1 : (Vc.set u w3.heap.size (.stringIter s (pos + 1))).heap[w3.heap.size]? = some (.stringIter s (pos + 1)):=get_set_same _ _ _ (lt_of_get u1)
          have hmv : Mod (fun _=>False) w (Vc.set u w3.heap.size (.stringIter s (pos + 1))):=hmu.set (.inl (by omega))
          revert v0 v1 hmv
          generalize Vc.set u w3.heap.size (.stringIter s (pos + 1)) = v
          intro v0 v1 hmv
          have v0':=v0
          simp only [Cm.cells] at v0'
          simp only [ZB,insVc,loadNK,extK,ne_eq,Nat.reduceEqDiff,Nat.reduceAdd,Nat.reduceLeDiff,Zad,Zac,Za,Zag,Zah,Zai,Zaj,Zak,Zaq,Zap,Zar,Zao,Zas,Zat,r1,r4,v0']
          refine field_c c b.toNat v _ hc ?_
          intro u2 hm2
          have hfz:=fieldB_size c b.toNat hl
          have hadd : (((a.size + (fieldB c b.toNat).size : Nat) : Int) > IntKind.i64.max) = False:=by
            have e : IntKind.i64.max = 9223372036854775807:=rfl
            rw [e]
            simp only [eq_iff_iff,iff_false]
            omega
          simp only [ZB,insVc,sopK,sopV,ne_eq,Nat.reduceEqDiff,Zae,hadd]
          refine ⟨s.size - (pos + 1),by omega,pos + 1,by omega,rfl,rfl,⟨by simp only [ZB,ne_eq,Nat.reduceEqDiff,r1],by simp only [ZB,ne_eq,Nat.reduceEqDiff,r40], ?_⟩,hmv.trans hm2,hm2.keep v0 id,hm2.keep v1 id⟩
          rw [hfo]
          simp only [ZB]
        · have hp : pos = s.size:=by omega
          subst hp
          rw [List.take_of_length_le (by rw [Array.length_toList]; exact Nat.le_refl _)] at ha
          rw [← ha] at h
          simp only [ZB,insVc]
          refine rawK_nextEnd (s:=s) (pos:=s.size) rfl rfl (by simp only [ZB]; exact r40) u1 (Nat.le_refl _) ?_
          simp only [ZB,endK,resK,packed,insVc,extK,ne_eq,Nat.reduceEqDiff,Za,Zah,Zaa,Zav,r4]
          exact h _ hmu
  · have he : c.err = 11:=by unfold Cm.err; rw [if_pos hk]
    rw [decide_eq_false hk]
    simp only [ZB,endK,resK,packed,insVc,notK,ne_eq,Nat.reduceEqDiff,Zaa,Zav]
    have:=h _ hm0
    rw [he] at this
    exact this
end Go.Oct
