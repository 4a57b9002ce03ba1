import Derived.Test.YtbkddpckkgbbmaaGreatDoorVgT
import Derived.Test.YtbkddpckkgbbmaaGreatDoorVgK
import Derived.Test.YtbkddpckkgbbmaaGreatDoorProg
import Derived.Test.YtbkddpckkgbbmaaGreatDoorVcI
set_option linter.unusedSimpArgs false
set_option linter.unusedVariables false
set_option linter.unusedSectionVars false
set_option linter.unnecessarySimpa false
namespace Go.Oct
open Go Go.Vc Go.VrA Go.VrF
set_option maxRecDepth 100000
def dec (l : Int) : Int:=IntKind.i64.wrap (l - 1)
theorem dec_eq {l : Int} (h : 0≤l) (h2 : l < 2 ^ 62) : dec l = l - 1:=wrap_i64 _ (by omega)
theorem spend_c (sb nb : Nat) (l : Int) (w : World) (K : Value→World→Prop) (hn : w.heap[nb]? = some (.cells #[.int .i64 l] 3 (0,0)))
    (h : ∀ w',Mod (fun k=>k = nb) w w'→w'.heap[nb]? = some (.cells #[.int .i64 (dec l)] 3 (0,0))→K (.bool (decide (dec l < 0))) w') :
    Ok Proofs.Tryz.prog 291 #[.agg #[ptr sb,ptr nb]] w K:=by
  refine F291.enter (args:=[.agg #[ptr sb,ptr nb]]) (by simp) ?_
  unfold c291 r291
  obtain ⟨w1,hw1⟩ : ∃ w1,w1 = w.alloc (.cells #[ptr sb,ptr nb] 77):=⟨_,rfl⟩
  have hm1 : Mod (fun _=>False) w w1:=by rw [hw1]; exact (Mod.refl _ _).alloc _
  have x1 : w1.heap[w.heap.size]? = some (.cells #[ptr sb,ptr nb] 77 (0,0)):=by rw [hw1]; exact get_alloc_new _ _
  have n1:=hm1.keep hn id
  have ln:=lt_of_get hn
  obtain ⟨w2,hw2⟩ : ∃ w2,w2 = Vc.set w1 nb (.cells #[.int .i64 (dec l)] 3 (0,0)):=⟨_,rfl⟩
  have hm2 : Mod (fun k=>k = nb) w1 w2:=by rw [hw2]; exact (Mod.refl _ _).set (.inr rfl)
  have x2:=hm2.keep x1 (by omega)
  have n2 : w2.heap[nb]? = some (.cells #[.int .i64 (dec l)] 3 (0,0)):=by rw [hw2]; exact get_set_same _ _ _ (lt_of_get n1)
  have hd : IntKind.i64.wrap (l - 1) = dec l:=rfl
  simp only [ZB,insVc,load1K,nilK,faddrK,Value.cells,ne_eq,Nat.reduceEqDiff,Zab,Za,Zaf,Zah,Zbg]
  rw [← hw1]
  simp only [ZB,insVc,load1K,storeK,nilK,iopK,iopV,faddrK,isPlain,ne_eq,Nat.reduceEqDiff,Nat.reduceLT,Nat.reduceLeDiff,reduceCtorEq,Za,Zah,Zak,Zai,Zaj,Zal,Zam,Zao,n1,hd]
  rw [← hw2]
  simp only [ZB,endK,resK,packed,insVc,load1K,nilK,iopK,iopV,reduceCtorEq,Za,Zaf,Zah,Zaa,x2,n2]
  exact h w2 ((hm1.mono fun _ _ x=>x.elim).trans hm2) n2
abbrev FS:=(Nat × M) × Int
def FAt (sb mb nb : Nat) (s : FS) (w : World) : Prop:=IsShelf w sb mb s.1.1 s.1.2∧w.heap[nb]? = some (.cells #[.int .i64 s.2] 3 (0,0))
theorem FAt.mod {sb mb nb : Nat} {s : FS} {S : Nat→Prop} {w w' : World} (h : FAt sb mb nb s w) (hm : Mod S w w') (h1 : ¬ S sb) (h2 : ¬ S mb) (h3 : ¬ S nb) : FAt sb mb nb s w':=⟨h.1.keep hm h1 h2,hm.keep h.2 h3⟩
def fval (sb nb : Nat) : Value:=.agg #[ptr sb,ptr nb]
def fget (s : FS) (k : ByteArray) : (ByteArray × Bool × Int) × FS :=
  if dec s.2 < 0 then ((e0,false,10),(s.1,dec s.2)) else ((⟨((lookM k.data.toList s.1.2).getD []).toArray⟩,(lookM k.data.toList s.1.2).isSome,0),(s.1,dec s.2))
def fput (s : FS) (k x : ByteArray) : Int × FS :=
  if dec s.2 < 0 then (14,(s.1,dec s.2)) else if k.size > 255∨x.size > 65536 then (5,(s.1,dec s.2)) else (0,((s.1.1 + 1,putM k.data.toList x.data.toList s.1.2),dec s.2))
def fcut (s : FS) (k : ByteArray) : (Bool × Int) × FS :=
  if dec s.2 < 0 then ((false,14),(s.1,dec s.2)) else (((lookM k.data.toList s.1.2).isSome,0),((s.1.1,delM k.data.toList s.1.2),dec s.2))
def frng (s : FS) (a b : ByteArray) : List Pr × FS :=
  if dec s.2 < 0 then ([(([],[]),10)],(s.1,dec s.2)) else (okRows (rngM a.data.toList b.data.toList s.1.2),(s.1,dec s.2))
section
variable {sb mb nb : Nat} (hsn : nb≠sb) (hmn : nb≠mb)
include hsn hmn
theorem fspend (s : FS) (w : World) (K : Value→World→Prop) (hAt : FAt sb mb nb s w)
    (h : ∀ w',Mod (fun k=>k = nb) w w'→FAt sb mb nb (s.1,dec s.2) w'→K (.bool (decide (dec s.2 < 0))) w') : Ok Proofs.Tryz.prog 291 #[.agg #[ptr sb,ptr nb]] w K :=
  spend_c sb nb s.2 w K hAt.2 fun w' hm hn=>h w' hm ⟨hAt.1.keep hm (fun e=>hsn e.symm) (fun e=>hmn e.symm),hn⟩
theorem fget_c (s : FS) (k : ByteArray) (w : World) (K : Value→World→Prop) (hAt : FAt sb mb nb s w) (hk : k.size≤255)
    (h : ∀ w',Mod (fun k=>k = nb) w w'→FAt sb mb nb (fget s k).2 w'→K (.tuple #[.string (fget s k).1.1,.bool (fget s k).1.2.1,.int .i64 (fget s k).1.2.2]) w') :
    Ok Proofs.Tryz.prog 288 #[fval sb nb,.string k] w K:=by
  refine F288.enter (args:=[fval sb nb,.string k]) (by simp) ?_
  unfold c288 r288
  simp only [ZB,insVc,loadNK,Value.cells,ne_eq,Nat.reduceEqDiff,Nat.reduceAdd,Nat.reduceLeDiff,Zab,Zad,Zae,Za,Zak,Zai,Zaj,Zb,Zaz,Zav,Zar,Zay,Zaw,Zbg,fval]
  refine callK_gen ?_
  intro w1 hw1
  have hm1 : Mod (fun _=>False) w w1:=by rw [hw1]; exact (Mod.refl _ _).alloc _
  have x1 : w1.heap[w.heap.size]? = some (.cells #[ptr sb,ptr nb] 77 (0,0)):=by rw [hw1]; exact get_alloc_new _ _
  clear hw1
  have ln:=lt_of_get hAt.2
  refine fspend hsn hmn s w1 _ (hAt.mod hm1 id id id) ?_
  intro w2 hm2 hA2
  have hm02 : Mod (fun k=>k = nb) w w2:=(hm1.mono fun _ _ x=>x.elim).trans hm2
  have x2:=hm2.keep x1 (by omega)
  unfold fget at h
  by_cases hd : dec s.2 < 0
  · rw [if_pos hd] at h
    simp only [ZB,endK,resK,packed,insVc,ne_eq,Nat.reduceEqDiff,Zaa,Zap,hd]
    exact h w2 hm02 hA2
  · rw [if_neg hd] at h
    simp only [ZB,insVc,load1K,faddrK,ne_eq,Nat.reduceEqDiff,Zab,Zad,Zae,Za,Zaf,Zah,hd,x2]
    refine sget_c sb mb s.1.1 s.1.2 k w2 _ hA2.1 (by simp [maxLen]; omega) ?_
    simp only [ZB,endK,resK,packed,insVc,extK,ne_eq,Nat.reduceEqDiff,Za,Zaf,Zah,Zaa,Zap]
    exact h w2 hm02 hA2
theorem fput_c (s : FS) (k x : ByteArray) (w : World) (K : Value→World→Prop) (hAt : FAt sb mb nb s w) (hf : s.1.1 < maxLen)
    (h : ∀ w',Mod (fun k=>k = mb∨k = nb) w w'→FAt sb mb nb (fput s k x).2 w'→K (.int .i64 (fput s k x).1) w') :
    Ok Proofs.Tryz.prog 289 #[fval sb nb,.string k,.string x] w K:=by
  refine F289.enter (args:=[fval sb nb,.string k,.string x]) (by simp) ?_
  unfold c289 r289
  simp only [ZB,insVc,loadNK,Value.cells,ne_eq,Nat.reduceEqDiff,Nat.reduceAdd,Nat.reduceLeDiff,Zab,Zad,Zae,Za,Zak,Zai,Zaj,Zb,Zaz,Zav,Zar,Zay,Zaw,Zbg,fval]
  refine callK_gen ?_
  intro w1 hw1
  have hm1 : Mod (fun _=>False) w w1:=by rw [hw1]; exact (Mod.refl _ _).alloc _
  have x1 : w1.heap[w.heap.size]? = some (.cells #[ptr sb,ptr nb] 77 (0,0)):=by rw [hw1]; exact get_alloc_new _ _
  clear hw1
  have ln:=lt_of_get hAt.2
  refine fspend hsn hmn s w1 _ (hAt.mod hm1 id id id) ?_
  intro w2 hm2 hA2
  have hm02 : Mod (fun k=>k = mb∨k = nb) w w2:=(hm1.mono fun _ _ x=>x.elim).trans (hm2.mono fun _ _ x=>.inr x)
  have x2:=hm2.keep x1 (by omega)
  unfold fput at h
  by_cases hd : dec s.2 < 0
  · rw [if_pos hd] at h
    simp only [ZB,endK,resK,packed,insVc,Zaa,hd]
    exact h w2 hm02 hA2
  · rw [if_neg hd] at h
    simp only [ZB,insVc,load1K,faddrK,ne_eq,Nat.reduceEqDiff,Zab,Zad,Zae,Za,Zaf,Zah,hd,x2]
    refine sput_c sb mb s.1.1 s.1.2 k x w2 _ hA2.1 hf (fun hc => ?_) (fun hc w' hm hs => ?_)
    · rw [if_pos hc] at h
      simp only [ZB,endK,resK,packed,insVc,Zaa]
      exact h w2 hm02 hA2
    · rw [if_neg hc] at h
      simp only [ZB,endK,resK,packed,insVc,Zaa]
      exact h w' (hm02.trans (hm.mono fun _ _ x=>.inl x)) ⟨hs,hm.keep hA2.2 hmn⟩
theorem fcut_c (s : FS) (k : ByteArray) (w : World) (K : Value→World→Prop) (hAt : FAt sb mb nb s w) (hk : k.size≤255)
    (h : ∀ w',Mod (fun k=>k = mb∨k = nb) w w'→FAt sb mb nb (fcut s k).2 w'→K (.tuple #[.bool (fcut s k).1.1,.int .i64 (fcut s k).1.2]) w') :
    Ok Proofs.Tryz.prog 287 #[fval sb nb,.string k] w K:=by
  refine F287.enter (args:=[fval sb nb,.string k]) (by simp) ?_
  unfold c287 r287
  simp only [ZB,insVc,loadNK,Value.cells,ne_eq,Nat.reduceEqDiff,Nat.reduceAdd,Nat.reduceLeDiff,Zab,Zad,Zae,Za,Zak,Zai,Zaj,Zb,Zaz,Zav,Zar,Zay,Zaw,Zbg,fval]
  refine callK_gen ?_
  intro w1 hw1
  have hm1 : Mod (fun _=>False) w w1:=by rw [hw1]; exact (Mod.refl _ _).alloc _
  have x1 : w1.heap[w.heap.size]? = some (.cells #[ptr sb,ptr nb] 77 (0,0)):=by rw [hw1]; exact get_alloc_new _ _
  clear hw1
  have ln:=lt_of_get hAt.2
  refine fspend hsn hmn s w1 _ (hAt.mod hm1 id id id) ?_
  intro w2 hm2 hA2
  have hm02 : Mod (fun k=>k = mb∨k = nb) w w2:=(hm1.mono fun _ _ x=>x.elim).trans (hm2.mono fun _ _ x=>.inr x)
  have x2:=hm2.keep x1 (by omega)
  unfold fcut at h
  by_cases hd : dec s.2 < 0
  · rw [if_pos hd] at h
    simp only [ZB,endK,resK,packed,insVc,ne_eq,Nat.reduceEqDiff,Zaa,Zap,hd]
    exact h w2 hm02 hA2
  · rw [if_neg hd] at h
    simp only [ZB,insVc,load1K,faddrK,ne_eq,Nat.reduceEqDiff,Zab,Zad,Zae,Za,Zaf,Zah,hd,x2]
    refine sdel_c sb mb s.1.1 s.1.2 k w2 _ hA2.1 (by simp [maxLen]; omega) ?_
    intro w' hm hs
    simp only [ZB,endK,resK,packed,insVc,extK,ne_eq,Nat.reduceEqDiff,Za,Zaf,Zah,Zaa,Zap]
    exact h w' (hm02.trans (hm.mono fun _ _ x=>.inl x)) ⟨hs,hm.keep hA2.2 hmn⟩
omit hsn hmn in
theorem ferr_iter (Facts : World→Prop) : IterP Proofs.Tryz.prog 292 [] (rowsV [(([],[]),10)]) Facts:=by
  rintro y ⟨fy,ya,yb,hyf⟩ J Jx w hJ hF hS hSx hy
  refine F292.enter (args:=[y]) (by simp) ?_
  unfold c292 r292
  simp only [ZB,insVc,callvK,buildK,fillL,ne_eq,Nat.reduceEqDiff,Zab,Zad,Zae,Za]
  have h1:=hy 0 (by simp [rowsV]) (fun _=>False) w hJ (fun _ x=>x.elim) (Nat.le_refl _)
  refine callvK_mono h1 ?_
  rintro v b ⟨⟨k1,k2⟩,k3⟩
  simp only [ZB,endK,resK]
  refine ⟨k1,fun _=>False,fun _ x=>x.elim, ?_⟩
  rcases k3 with ⟨_,k⟩ | ⟨_,k⟩
  · exact .inl k
  · exact .inr k
theorem frng_c (s : FS) (a b : ByteArray) (w : World) (K : Value→World→Prop) (hAt : FAt sb mb nb s w) (hml : s.1.2.length * 16≤140737488355328)
    (h : ∀ w' gf cap,Mod (fun k=>k = nb) w w'→FAt sb mb nb (frng s a b).2 w'→IterP Proofs.Tryz.prog gf cap (rowsV (frng s a b).1) (fun u=>FAt sb mb nb (frng s a b).2 u∧Kept w.heap.size w' u)→K (.func (.func gf) #[] cap.toArray) w') :
    Ok Proofs.Tryz.prog 290 #[fval sb nb,.string a,.string b] w K:=by
  refine F290.enter (args:=[fval sb nb,.string a,.string b]) (by simp) ?_
  unfold c290 r290
  simp only [ZB,insVc,loadNK,Value.cells,ne_eq,Nat.reduceEqDiff,Nat.reduceAdd,Nat.reduceLeDiff,Zab,Zad,Zae,Za,Zak,Zai,Zaj,Zb,Zaz,Zav,Zar,Zay,Zaw,Zbg,fval]
  refine callK_gen ?_
  intro w1 hw1
  have hm1 : Mod (fun _=>False) w w1:=by rw [hw1]; exact (Mod.refl _ _).alloc _
  have x1 : w1.heap[w.heap.size]? = some (.cells #[ptr sb,ptr nb] 77 (0,0)):=by rw [hw1]; exact get_alloc_new _ _
  clear hw1
  have ln:=lt_of_get hAt.2
  refine fspend hsn hmn s w1 _ (hAt.mod hm1 id id id) ?_
  intro w2 hm2 hA2
  have hm02 : Mod (fun k=>k = nb) w w2:=(hm1.mono fun _ _ x=>x.elim).trans hm2
  have x2:=hm2.keep x1 (by omega)
  unfold frng at h
  by_cases hd : dec s.2 < 0
  · rw [if_pos hd] at h
    simp only [ZB,endK,resK,packed,insVc,Zaa,hd]
    exact h w2 _ [] hm02 hA2 (ferr_iter _)
  · rw [if_neg hd] at h
    simp only [ZB,insVc,load1K,faddrK,ne_eq,Nat.reduceEqDiff,Zab,Zad,Zae,Za,Zaf,Zah,hd,x2]
    refine rng_c sb mb s.1.1 s.1.2 a b w2 _ hA2.1 hml ?_
    intro w3 gf cap hm3 it
    have hs2:=hm02.size
    simp only [ZB,endK,resK,packed,insVc,Zaa]
    refine h w3 gf cap (hm02.trans (hm3.mono fun _ _ x=>x.elim)) (hA2.mod hm3 id id id) (iterP_mono it ?_)
    rintro u ⟨⟨h1,h2⟩,h3⟩
    exact ⟨h1,h3.1,fun k hk1 hk2=>h3.2 k (by omega) hk2⟩
end
end Go.Oct
namespace Go.Oct
open Go Go.Vc Go.VrA Go.VrF
set_option maxRecDepth 100000
def failing (sb mb nb : Nat) (h0 : 0≠mb) (hn : 0≠nb) (hsn : nb≠sb) (hmn : nb≠mb) : Sto FS where
  t:=77
  v:=fval sb nb
  At:=FAt sb mb nb
  own k:=k = mb∨k = nb
  foot k:=k = sb∨k = mb∨k = nb
  fit s:=s.1.1 < maxLen
  ownFoot _ h:=.inr h
  footLt s w k h hk:=by
    rcases hk with rfl | rfl | rfl
    · exact lt_of_get h.1.1
    · exact World.ownsMap.lt h.1.2.1
    · exact lt_of_get h.2
  own0 h:=h.elim h0 hn
  keep S s w w' h hm hS:=h.mod hm (fun x=>hS _ (lt_of_get h.1.1) x (.inl rfl)) (fun x=>hS _ (World.ownsMap.lt h.1.2.1) x (.inr (.inl rfl))) (fun x=>hS _ (lt_of_get h.2) x (.inr (.inr rfl)))
  get:=fget
  getOk s k w G h hk hG:=⟨288,fval sb nb,by kernel_rfl,fget_c hsn hmn s k w G h hk (fun w' hm hA=>hG w' (hm.mono fun _ _ x=>.inr x) hA)⟩
  put:=fput
  putOk s k x w G h hf hG:=⟨289,fval sb nb,by kernel_rfl,fput_c hsn hmn s k x w G h hf hG⟩
  rfit s:=s.1.2.length * 16≤140737488355328
  rng:=frng
  rngOk s a b w G h hf hG:=⟨290,fval sb nb,by kernel_rfl,frng_c hsn hmn s a b w G h hf (fun w' gf cap hm hA it=>hG w' gf cap (hm.mono fun _ _ x=>.inr x) hA it)⟩
  putNil w:=by kernel_rfl
def failingC (sb mb nb : Nat) (h0 : 0≠mb) (hn : 0≠nb) (hsn : nb≠sb) (hmn : nb≠mb) : StoC FS where
  toSto:=failing sb mb nb h0 hn hsn hmn
  cut:=fcut
  cutOk s k w G h hk hG:=⟨287,fval sb nb,by kernel_rfl,fcut_c hsn hmn s k w G h hk hG⟩
section
variable (sb mb nb : Nat) (h0 : 0≠mb) (hn : 0≠nb) (hsn : nb≠sb) (hmn : nb≠mb)
theorem foot_failing : FootS (failing sb mb nb h0 hn hsn hmn):=by
  intro s w w' h hsz he
  have e1:=he sb (.inl rfl)
  have e2:=he mb (.inr (.inl rfl))
  have e3:=he nb (.inr (.inr rfl))
  obtain ⟨⟨a1,⟨es,clock,hb,F,hs,hD⟩,a3⟩,a4⟩:=h
  exact ⟨⟨e1.trans a1,⟨es,clock,e2.trans hb,F,hs,hD⟩,a3⟩,e3.trans a4⟩
def SimE (r : Int × FS) (e : Int) : Prop:=(r.2.2 < 0→r.1 = 10∨r.1 = 14)∧(0≤r.2.2→r.1 = e)
theorem simE_same (e : Int) (x : Nat × M) (l : Int) (h : 0≤l) : SimE (e,(x,l)) e:=⟨fun h2=>by have h2 : l < 0:=h2; omega,fun _=>rfl⟩
theorem simE_bad (e e' : Int) (x : Nat × M) (l : Int) (h : dec l < 0) (he : e = 10∨e = 14) : SimE (e,(x,dec l)) e':=⟨fun _=>he,fun h2=>by have h2 : 0≤dec l:=h2; omega⟩
theorem dec_ok {l : Int} (h : 0≤l) (h2 : l < 100) (hd : ¬ dec l < 0) : 0≤dec l∧dec l < 100:=by have:=dec_eq h (by omega); omega
variable {c : Nat} {map : M} {B : Bk} (hr : Rg B map)
include hr
theorem ffind (name : ByteArray) (l : Int) (hk : (queueK name).2 = 0) : (failing sb mb nb h0 hn hsn hmn).find ((c,map),l) name = if dec l < 0 then ((q0,10),((c,map),dec l)) else (getQ name B.qs,((c,map),dec l)):=by
  have hs:=find_shelf2 1 2 (by decide) c hr name
  unfold Sto.find at hs ⊢
  rw [if_neg (by simpa using hk)] at hs ⊢
  show (findR name (fget ((c,map),l) (queueK name).1).1,(fget ((c,map),l) (queueK name).1).2) = _
  unfold fget
  by_cases hd : dec l < 0
  · rw [if_pos hd,if_pos hd]
    rfl
  · rw [if_neg hd,if_neg hd]
    have hs1 : findR name ((⟨((lookM (queueK name).1.data.toList map).getD []).toArray⟩,(lookM (queueK name).1.data.toList map).isSome,0) : ByteArray × Bool × Int) = getQ name B.qs:=congrArg Prod.fst hs
    exact Prod.ext hs1 rfl
theorem fput_sim (k x : ByteArray) (l e : Int) (h : 0≤l) (h2 : l < 100) (he : (if k.size > 255∨x.size > 65536 then (5 : Int) else 0) = e) : SimE (fput ((c,map),l) k x) e:=by
  unfold fput
  by_cases hd : dec l < 0
  · rw [if_pos hd]; exact simE_bad 14 e _ l hd (.inr rfl)
  · rw [if_neg hd]
    have:=dec_ok h h2 hd
    by_cases hc : k.size > 255∨x.size > 65536
    · rw [if_pos hc] at he ⊢
      subst he
      exact simE_same 5 _ _ this.1
    · rw [if_neg hc] at he ⊢
      subst he
      exact simE_same 0 _ _ this.1
omit hr in
theorem qk0' {n : ByteArray} (h : nameB n = true) : (queueK n).2 = 0:=by rw [queueK_if,if_pos (qkey_name h)]
theorem declare_fail (q : Qu) (hq : q.most < 2 ^ 32∧q.ttl < 2 ^ 64∧q.tries < 2 ^ 32) (l : Int) (hl : 0≤l) (hl2 : l < 50) : SimE ((failing sb mb nb h0 hn hsn hmn).declare ((c,map),l) q) (B.declare q).1:=by
  unfold Sto.declare Bk.declare
  by_cases h1 : nameB q.name = false∨(emptyB q.dead = false∧nameB q.dead = false)
  · rw [if_pos h1,if_pos h1]; exact simE_same 23 _ l hl
  rw [if_neg h1,if_neg h1]
  by_cases h2 : (q.dead.toList == q.name.toList) = true
  · rw [if_pos h2,if_pos h2]; exact simE_same 2 _ l hl
  rw [if_neg h2,if_neg h2]
  by_cases h3 : q.ttl > 1099511627776
  · rw [if_pos h3,if_pos h3]; exact simE_same 29 _ l hl
  rw [if_neg h3,if_neg h3]
  obtain ⟨hnm,hd⟩:=name_dead h1
  have hf : q.fine:=⟨hq.1,hq.2.1,hq.2.2,hd⟩
  rw [ffind sb mb nb h0 hn hsn hmn hr q.name l (qk0' hnm)]
  by_cases d1 : dec l < 0
  · rw [if_pos d1]
    simp only []
    rw [if_neg (by decide),if_pos (by decide)]
    exact simE_bad 10 _ _ l d1 (.inl rfl)
  rw [if_neg d1]
  obtain ⟨l1,l2⟩:=dec_ok hl (by omega) d1
  have f2:=getQ_2 q.name B.qs
  simp only []
  by_cases h4 : 0≤bfind q.name B.qs 0
  · rw [if_pos h4] at f2
    rw [if_pos f2,if_pos h4]; exact simE_same 22 _ _ l1
  rw [if_neg h4] at f2
  rw [if_neg (by rw [f2]; decide),if_neg (by rw [f2]; decide),if_neg h4]
  have hput : ∀ l,0≤l→l < 100→SimE ((failing sb mb nb h0 hn hsn hmn).put ((c,map),l) (queueK q.name).1 (qbytes q)) 0:=by
    intro l h1 h2
    refine fput_sim hr _ _ l 0 h1 h2 (if_neg ?_)
    have e1:=keyL_size [str ⟨#[113]⟩,str q.name] [] (by simp)
    have e1 : (queueK q.name).1.size≤255:=e1
    have e2:=qbytes_size q hf
    omega
  cases hE : emptyB q.dead with
  | true =>
    simp only [Zac]
    rw [if_neg (by simp),if_neg (by simp)]
    exact hput _ l1 l2
  | false =>
    have hdn : nameB q.dead = true:=by
      cases e : nameB q.dead with
      | true=>rfl
      | false=>exact (h1 (.inr ⟨hE,e⟩)).elim
    simp only [Bool.false_eq_true,Zag]
    rw [ffind sb mb nb h0 hn hsn hmn hr q.dead _ (qk0' hdn)]
    by_cases d2 : dec (dec l) < 0
    · rw [if_pos d2]
      simp only []
      rw [if_pos (by decide)]
      exact simE_bad 10 _ _ _ d2 (.inl rfl)
    rw [if_neg d2]
    obtain ⟨l3,l4⟩:=dec_ok l1 l2 d2
    have g2:=getQ_2 q.dead B.qs
    simp only []
    by_cases h5 : 0≤bfind q.dead B.qs 0
    · rw [if_pos h5] at g2
      rw [if_neg (by rw [g2]; simp),if_neg (by omega)]
      exact hput _ l3 l4
    · rw [if_neg h5] at g2
      rw [if_pos (by rw [g2]; decide),if_pos ⟨trivial,by omega⟩,g2]
      exact simE_same 21 _ _ l3
theorem funder_x (ex : ByteArray) (hx : nameB ex = true) (l : Int) : (failing sb mb nb h0 hn hsn hmn).underS ((c,map),l) ⟨#[98]⟩ [str ex] =
    if dec l < 0 then ([(([],[]),10)],((c,map),dec l)) else ((shelf 1 2 (by decide)).under (c,map) ⟨#[98]⟩ [str ex],((c,map),dec l)):=by
  unfold Sto.underS Sto.under
  have e : ((underK ⟨#[98]⟩ [str ex]).1.toList == (⟨#[]⟩ : ByteArray).toList) = false:=by
    rw [under_x ex (xLo_name hx)]
    simp [ByteArray.toList_eq,xLo]
  rw [e]
  simp only [Bool.false_eq_true,Zag]
  show frng ((c,map),l) _ _ = _
  unfold frng
  by_cases hd : dec l < 0
  · rw [if_pos hd,if_pos hd]
  · rw [if_neg hd,if_neg hd]; rfl
theorem funder_b (l : Int) : (failing sb mb nb h0 hn hsn hmn).underS ((c,map),l) ⟨#[98]⟩ [] =
    if dec l < 0 then ([(([],[]),10)],((c,map),dec l)) else ((shelf 1 2 (by decide)).under (c,map) ⟨#[98]⟩ [],((c,map),dec l)):=by
  unfold Sto.underS Sto.under
  have e : ((underK ⟨#[98]⟩ []).1.toList == (⟨#[]⟩ : ByteArray).toList) = false:=by
    rw [under_b2]
    simp [ByteArray.toList_eq]
  rw [e]
  simp only [Bool.false_eq_true,Zag]
  show frng ((c,map),l) _ _ = _
  unfold frng
  by_cases hd : dec l < 0
  · rw [if_pos hd,if_pos hd]
  · rw [if_neg hd,if_neg hd]; rfl
theorem bind_fail (x : Bi) (hx : x.inI) (l : Int) (hl : 0≤l) (hl2 : l < 50) : SimE ((failing sb mb nb h0 hn hsn hmn).bindZ ((c,map),l) x) (B.bind x).1:=by
  unfold Sto.bindZ Bk.bind
  by_cases h1 : nameB x.ex = false∨nameB x.q = false
  · rw [if_pos h1,if_pos h1]; exact simE_same 23 _ l hl
  rw [if_neg h1,if_neg h1]
  by_cases h2 : x.kind < 1∨3 < x.kind
  · rw [if_pos h2,if_pos h2]; exact simE_same 11 _ l hl
  rw [if_neg h2,if_neg h2]
  by_cases h3 : rightB x.kind x.key = false
  · rw [if_pos h3,if_pos h3]; exact simE_same 24 _ l hl
  rw [if_neg h3,if_neg h3]
  have hne : nameB x.ex = true∧nameB x.q = true:=by
    constructor
    · cases e : nameB x.ex with
      | true=>rfl
      | false=>exact (h1 (.inl e)).elim
    · cases e : nameB x.q with
      | true=>rfl
      | false=>exact (h1 (.inr e)).elim
  rw [ffind sb mb nb h0 hn hsn hmn hr x.q l (qk0' hne.2)]
  by_cases d1 : dec l < 0
  · rw [if_pos d1]
    simp only []
    rw [if_pos (by decide)]
    exact simE_bad 10 _ _ l d1 (.inl rfl)
  rw [if_neg d1]
  obtain ⟨l1,l2⟩:=dec_ok hl (by omega) d1
  have f2:=getQ_2 x.q B.qs
  simp only []
  by_cases h4 : bfind x.q B.qs 0 < 0
  · rw [if_neg (by omega)] at f2
    rw [if_pos (by rw [f2]; decide),if_pos h4,f2]; exact simE_same 21 _ _ l1
  rw [if_pos (by omega)] at f2
  rw [if_neg (by rw [f2]; decide),if_neg h4]
  have hmz : (failing sb mb nb h0 hn hsn hmn).mixZ ((c,map),dec l) x = if dec (dec l) < 0 then (10,((c,map),dec (dec l))) else (if (B.bs.any fun y=>(y.ex.toList == x.ex.toList) && (y.kind != x.kind)) = true then 11 else 0,((c,map),dec (dec l))):=by
    unfold Sto.mixZ
    rw [funder_x sb mb nb h0 hn hsn hmn hr x.ex hne.1]
    by_cases d2 : dec (dec l) < 0
    · rw [if_pos d2,if_pos d2]; rfl
    · rw [if_neg d2,if_neg d2]
      obtain ⟨D,e1,e2,e3⟩:=bindings_shelf 1 2 (by decide) c hr x.ex
      simp only []
      rw [e1,mixE_map]
      have hany : (D.any fun y=>decide (y.kind≠x.kind)) = (B.bs.any fun y=>(y.ex.toList == x.ex.toList) && (y.kind != x.kind)):=by
        rw [Bool.eq_iff_iff,List.any_eq_true,List.any_eq_true]
        constructor
        · rintro ⟨y,hy,hk⟩
          obtain ⟨e1,e2⟩:=mem_exL.1 ((e2 y).1 hy)
          refine ⟨y,e1, ?_⟩
          rw [tl_eq,decide_eq_true e2]
          simpa using hk
        · rintro ⟨y,hy,hk⟩
          rw [tl_eq,Bool.and_eq_true] at hk
          exact ⟨y,(e2 y).2 (mem_exL.2 ⟨hy,of_decide_eq_true hk.1⟩),by simpa using hk.2⟩
      rw [hany]
  rw [hmz]
  by_cases d2 : dec (dec l) < 0
  · rw [if_pos d2]
    simp only []
    rw [if_pos (by decide)]
    exact simE_bad 10 _ _ _ d2 (.inl rfl)
  rw [if_neg d2]
  obtain ⟨l3,l4⟩:=dec_ok l1 l2 d2
  by_cases h5 : (B.bs.any fun y=>(y.ex.toList == x.ex.toList) && (y.kind != x.kind)) = true
  · simp only [h5,Zac]
    rw [if_pos (by decide)]
    exact simE_same 11 _ _ l3
  simp only [h5]
  rw [if_neg (by decide)]
  rw [bindK_if]
  by_cases hk : (bkey x).length≤255
  rotate_left
  · rw [if_neg hk,if_pos (by simp)]
    rw [if_neg (by simp),if_pos (by simp)]
    exact simE_same 5 _ _ l3
  have hthere : (B.bs.any fun y=>eqBi x y) = true ↔ x ∈ B.bs:=by
    rw [List.any_eq_true]
    constructor
    · rintro ⟨y,hy,e⟩
      rw [eqBi_eq] at e
      rw [of_decide_eq_true e]; exact hy
    · exact fun hy=>⟨x,hy,by rw [eqBi_eq]; simp⟩
  simp only [hk,Zac,ne_eq,not_true_eq_false,Zag]
  have hget : (failing sb mb nb h0 hn hsn hmn).get ((c,map),dec (dec l)) ⟨(bkey x).toArray⟩ = fget ((c,map),dec (dec l)) ⟨(bkey x).toArray⟩:=rfl
  rw [hget]
  unfold fget
  by_cases d3 : dec (dec (dec l)) < 0
  · simp only [d3,Zac]
    rw [if_pos (by decide)]
    exact simE_bad 10 _ _ _ d3 (.inl rfl)
  simp only [d3,Zag,not_true_eq_false]
  obtain ⟨l5,l6⟩:=dec_ok l3 l4 d3
  by_cases hin : x ∈ B.bs
  · have e1 : lookM (bkey x) map = some []:=hr.look_b hin
    have e2 : lookM ((⟨(bkey x).toArray⟩ : ByteArray).data.toList) map = some []:=e1
    simp only [e2,Option.isSome_some,Zac]
    rw [if_neg (by simp),if_pos (hthere.2 hin)]
    exact simE_same 22 _ _ l5
  · have e1 : lookM (bkey x) map = none:=hr.look_b_none hk hx hin
    have e2 : lookM ((⟨(bkey x).toArray⟩ : ByteArray).data.toList) map = none:=e1
    simp only [e2,Option.isSome_none,Bool.false_eq_true,Zag]
    rw [if_neg (fun e=>hin (hthere.1 e))]
    refine fput_sim hr _ _ _ 0 l5 l6 (if_neg ?_)
    have e3 : (⟨(bkey x).toArray⟩ : ByteArray).size = (bkey x).length:=by simp [ByteArray.size]
    have e4 : e0.size = 0:=rfl
    omega
theorem route_fail (ex key : ByteArray) (l : Int) (hl : 0≤l) (hl2 : l < 50) (hne : emptyB ex = false) : SimE (((failing sb mb nb h0 hn hsn hmn).routeZ ((c,map),l) ex key).1.2,((failing sb mb nb h0 hn hsn hmn).routeZ ((c,map),l) ex key).2) (B.route ex key).2:=by
  have hs:=route_shelf 1 2 (by decide) c hr ex key hne
  rw [← hs]
  unfold Sto.routeZ Sto.routeR
  cases hnm : nameB ex with
  | false =>
    simp only [Zac]
    exact simE_same 23 _ _ hl
  | true =>
    cases hk : keyW key with
    | false =>
      simp only [Bool.true_eq_false,Zag,Zac]
      exact simE_same 4 _ _ hl
    | true =>
      simp only [Bool.true_eq_false,Zag]
      rw [funder_x sb mb nb h0 hn hsn hmn hr ex hnm]
      by_cases d1 : dec l < 0
      · rw [if_pos d1]
        exact simE_bad 10 _ _ l d1 (.inl rfl)
      · rw [if_neg d1]
        exact simE_same _ _ _ (dec_ok hl (by omega) d1).1
theorem find_fail (key : ByteArray) (l : Int) (hl : 0≤l) (hl2 : l < 50) : SimE (((failing sb mb nb h0 hn hsn hmn).find ((c,map),l) key).1.2,((failing sb mb nb h0 hn hsn hmn).find ((c,map),l) key).2) (B.route ⟨#[]⟩ key).2:=by
  have hro : (B.route ⟨#[]⟩ key).2 = (getQ key B.qs).2:=by
    have g2:=getQ_2 key B.qs
    unfold Bk.route
    rw [if_pos (by rw [emptyB_eq]; exact decide_eq_true rfl),g2]
    by_cases h : bfind key B.qs 0 < 0
    · rw [if_pos h,if_neg (by omega)]
    · rw [if_neg h,if_pos (by omega)]
  rw [hro]
  by_cases hk : (queueK key).2 = 0
  · rw [ffind sb mb nb h0 hn hsn hmn hr key l hk]
    by_cases d1 : dec l < 0
    · rw [if_pos d1]
      exact simE_bad 10 _ _ l d1 (.inl rfl)
    · rw [if_neg d1]
      exact simE_same _ _ _ (dec_ok hl (by omega) d1).1
  · have hs:=find_shelf2 1 2 (by decide) c hr key
    unfold Sto.find at hs ⊢
    rw [if_pos hk] at hs ⊢
    have e : (q0,(21 : Int)) = getQ key B.qs:=congrArg Prod.fst hs
    rw [← e]
    exact simE_same 21 _ _ hl
omit hr in
theorem fcuts : ∀ (Q : List (List UInt8)) (c : Nat) (map : M) (l : Int),0≤l→l < 100→SimE ((failingC sb mb nb h0 hn hsn hmn).cuts ((c,map),l) Q) 0:=by
  intro Q
  induction Q with
  | nil=>intro c map l h _; exact simE_same 0 _ l h
  | cons k Q ih =>
    intro c map l h h2
    rw [cuts_cons]
    have hc : (failingC sb mb nb h0 hn hsn hmn).cut ((c,map),l) ⟨k.toArray⟩ = fcut ((c,map),l) ⟨k.toArray⟩:=rfl
    rw [hc]
    unfold fcut
    by_cases d1 : dec l < 0
    · rw [if_pos d1,if_pos (by simp)]
      exact simE_bad 14 _ _ l d1 (.inr rfl)
    · rw [if_neg d1,if_neg (by simp)]
      obtain ⟨l1,l2⟩:=dec_ok h h2 d1
      exact ih c _ _ l1 l2
theorem drop_fail (name : ByteArray) (l : Int) (hl : 0≤l) (hl2 : l < 50) : SimE ((failingC sb mb nb h0 hn hsn hmn).dropZ ((c,map),l) name) (B.drop name).1:=by
  unfold StoC.dropZ Bk.drop
  have hff : (failingC sb mb nb h0 hn hsn hmn).toSto = failing sb mb nb h0 hn hsn hmn:=rfl
  rw [hff]
  have f2:=getQ_2 name B.qs
  by_cases hk : (queueK name).2 = 0
  rotate_left
  · have hs:=find_shelf2 1 2 (by decide) c hr name
    unfold Sto.find at hs ⊢
    rw [if_pos hk] at hs
    have e : (q0,(21 : Int)) = getQ name B.qs:=congrArg Prod.fst hs
    have h4 : bfind name B.qs 0 < 0:=by
      rw [← e] at f2
      by_cases h : 0≤bfind name B.qs 0
      · rw [if_pos h] at f2; cases f2
      · omega
    rw [if_pos hk,if_pos (by simp),if_pos h4]
    exact simE_same 21 _ _ hl
  rw [ffind sb mb nb h0 hn hsn hmn hr name l hk]
  by_cases d1 : dec l < 0
  · rw [if_pos d1]
    simp only []
    rw [if_pos (by decide)]
    exact simE_bad 10 _ _ l d1 (.inl rfl)
  rw [if_neg d1]
  obtain ⟨l1,l2⟩:=dec_ok hl (by omega) d1
  simp only []
  by_cases h4 : bfind name B.qs 0 < 0
  · rw [if_neg (by omega)] at f2
    rw [if_pos (by rw [f2]; decide),if_pos h4,f2]; exact simE_same 21 _ _ l1
  rw [if_pos (by omega)] at f2
  rw [if_neg (by rw [f2]; decide),if_neg h4,funder_b sb mb nb h0 hn hsn hmn hr]
  by_cases d2 : dec (dec l) < 0
  · rw [if_pos d2]
    exact simE_bad 10 _ _ _ d2 (.inl rfl)
  rw [if_neg d2]
  obtain ⟨l3,l4⟩:=dec_ok l1 l2 d2
  obtain ⟨D,e1,e2,e3⟩:=allB_shelf 1 2 (by decide) c hr
  simp only []
  rw [e1]
  unfold StoC.dropAt
  rw [bErr_map,if_neg (by simp)]
  exact fcuts sb mb nb h0 hn hsn hmn _ c map _ l3 l4
end
end Go.Oct
namespace Go.VrG
open Go Go.Vc
set_option maxRecDepth 100000
noncomputable def c77 : CC:=(.seq (.ops [⟨none,(some 4),(.mv (.const (.bool false)))⟩])
 (.seq (.seq (.ops [⟨none,(some 6),(.mv (.tmp 0))⟩,⟨none,(some 7),(.lenL (.tmp 6))⟩,⟨none,(some 8),(.mv (.tmp 1))⟩,⟨none,(some 9),(.lenL (.tmp 8))⟩,⟨none,(some 10),(.iop .neq (.tmp 7) (.tmp 9))⟩])
 (.cond (.tmp 10)
 (.seq (.ops [⟨none,(some 4),(.mv (.const (.bool false)))⟩])
 .ret)
 .skip))
 (.seq (.seq (.ops [⟨none,(some 11),(.mv (.tmp 0))⟩,⟨none,(some 12),(.lenL (.tmp 11))⟩,⟨none,(some 13),(.mv (.const (.int .i64 0)))⟩])
 (.block 0
 (.loop
 (.seq (.ops [⟨none,(some 14),(.iop .lss (.tmp 13) (.tmp 12))⟩])
 (.seq (.cond (.tmp 14)
 .skip
 (.exit 0))
 (.seq (.block 1
 (.seq (.ops [⟨none,(some 15),(.mv (.tmp 13))⟩,⟨none,(some 5),(.mv (.tmp 15))⟩])
 (.seq (.draw 6 (opsOf (sub (bodyOf Go.Proofs.Tryz.f77) [1,1,0,1,0,0,1,1,0,0,1,0])) [⟨none,(some 16),(.mv (.tmp 0))⟩,⟨none,(some 17),(.mv (.tmp 5))⟩,⟨none,(some 18),(.iaddr 1 (.tmp 16) (.tmp 17))⟩,⟨none,(some 19),(.load1 (.tmp 18))⟩,⟨none,(some 20),(.mv (.tmp 1))⟩,⟨none,(some 21),(.mv (.tmp 5))⟩,⟨none,(some 22),(.iaddr 1 (.tmp 20) (.tmp 21))⟩,⟨none,(some 23),(.load1 (.tmp 22))⟩,⟨none,(some 24),(.sop .neq (.tmp 19) (.tmp 23))⟩])
 (.cond (.tmp 24)
 (.seq (.ops [⟨none,(some 4),(.mv (.const (.bool false)))⟩])
 .ret)
 .skip))))
 (.ops [⟨none,(some 25),(.iop .add (.tmp 13) (.const (.int .i64 1)))⟩,⟨none,(some 13),(.mv (.tmp 25))⟩])))))))
 (.seq (.ops [⟨none,(some 4),(.mv (.const (.bool true)))⟩])
 .ret))))
abbrev r77 : List RV:=[(.tmp 4)]
theorem F77 : FnOk Go.Proofs.Tryz.prog 77 26 c77 r77:=⟨_,Go.Proofs.Tryz.func77,by kernel_rfl,by kernel_rfl,by kernel_rfl,by kernel_rfl,by kernel_rfl⟩
end Go.VrG
namespace Go.Oct
open Go Go.Vc Go.VrA Go.VrF
set_option maxRecDepth 100000
theorem equalG_c (l1 l2 : List (List UInt8)) (v1 v2 : Value) (w : World) (K : Value→World→Prop) (h1 : IsSl w v1 (stV l1)) (h2 : IsSl w v2 (stV l2)) (hl1 : l1.length < 2 ^ 40) (hl2 : l2.length < 2 ^ 40)
    (h : ∀ w' r,Mod (fun _=>False) w w'→(l1 = l2→r = true)→K (.bool r) w') : Ok Proofs.Tryz.prog 77 #[v1,v2] w K:=by
  obtain ⟨⟨a,ca,rfl⟩,hat⟩:=h1
  obtain ⟨⟨b,cb,rfl⟩,hbt⟩:=h2
  rw [stV_len] at hat hbt ⊢
  rw [stV_len]
  refine VrG.F77.enter (args:=[.slice a l1.length ca,.slice b l2.length cb]) (by simp) ?_
  unfold VrG.c77 VrG.r77
  by_cases hlen : l1.length = l2.length
  rotate_left
  · have q0 : (((l1.length : Nat) : Int) != ((l2.length : Nat) : Int)) = true:=by simp only [bne_iff_ne,ne_eq]; omega
    simp only [ZB,endK,resK,packed,insVc,iopK,iopV,lenLK,ne_eq,Nat.reduceEqDiff,reduceCtorEq,Zab,Za,Zaf,Zaa,q0]
    exact h w false (Mod.refl _ _) (fun e=>(hlen (by rw [e])).elim)
  have q0 : (((l1.length : Nat) : Int) != ((l2.length : Nat) : Int)) = false:=by rw [hlen]; simp
  simp only [ZB,insVc,iopK,iopV,lenLK,ne_eq,Nat.reduceEqDiff,reduceCtorEq,Zab,Za,Zaf,q0]
  refine vc_loop (fun mm ρ ds u => ∃ i,i≤l1.length∧mm = l1.length - i∧ds = []∧ρ 0 = .slice a l1.length ca∧ρ 1 = .slice b l2.length cb∧ρ 12 = .int .i64 l1.length∧ρ 13 = .int .i64 i∧Mod (fun _=>False) w u) (l1.length - 0) ?_ ?_
  · exact ⟨0,Nat.zero_le _,rfl,rfl,by simp only [ZB,ne_eq,reduceCtorEq,Zab,Za],by simp only [ZB,ne_eq,Nat.reduceEqDiff,Zab,Za,Zaf],by simp only [ZB,ne_eq,Nat.reduceEqDiff],by simp only [ZB] <;> rfl,Mod.refl _ _⟩
  · rintro mm ρ ds u ⟨i,hi,rfl,rfl,g0,g1,g12,g13,hmu⟩
    by_cases c1 : i < l1.length
    · have d1 : (i : Int) < ((l1.length : Nat) : Int):=by omega
      obtain ⟨x,hx⟩ : ∃ x,l1[i]? = some x:=⟨l1[i],List.getElem?_eq_getElem c1⟩
      obtain ⟨y,hy⟩ : ∃ y,l2[i]? = some y:=⟨l2[i]'(by omega),List.getElem?_eq_getElem _⟩
      obtain ⟨b1,o1,c1',cur1,t1,f1,e1,k1,k2⟩:=hat i (.string ⟨x.toArray⟩) (by simp [stV,hx])
      obtain ⟨b2,o2,c2',cur2,t2,f2,e2,k3,k4⟩:=hbt i (.string ⟨y.toArray⟩) (by simp [stV,hy])
      have ha' : a = some ⟨b1,o1,none⟩:=by simpa using congrArg (fun x=>match x with | .slice a _ _=>a | _=>none) e1
      have hb' : b = some ⟨b2,o2,none⟩:=by simpa using congrArg (fun x=>match x with | .slice a _ _=>a | _=>none) e2
      subst ha' hb'
      have hi0 : (0 : Int)≤(i : Int)∧(i : Int) < ((l1.length : Nat) : Int):=by omega
      have hi1 : (0 : Int)≤(i : Int)∧(i : Int) < ((l2.length : Nat) : Int):=by omega
      have hw1 : IntKind.i64.wrap ((i : Int) + 1) = ((i + 1 : Nat) : Int):=by rw [wrap_i64 _ (by omega)]; omega
      have k1u:=hmu.keep k1 id
      have k3u:=hmu.keep k3 id
      simp only [ZB,insVc,iopK,iopV,ne_eq,Nat.reduceEqDiff,reduceCtorEq,g12,g13,d1]
      refine draw_d (Mod (fun _=>False) u) (by kernel_rfl) (by kernel_rfl) (by kernel_rfl) (by kernel_rfl) (Mod.refl _ _).drew ?_
      simp only [ZB,insVc,sopK,sopV,iaddrK,ne_eq,Nat.reduceEqDiff,reduceCtorEq,Zac,Zag,Zax,Zbh,pureI,vcD_nil,vcD_cons,stepD_pure,stepD_load,kindI,loadI,g0,g1,hi0]
      refine loadD1 (b:=b1) (o:=o1 + i) (v:=.string ⟨x.toArray⟩) (by simp only [ZB]) (fun W hW=>⟨_,_,_,hW.keep k1u id,k2⟩) ?_
      simp only [true_and,hi1]
      refine loadD1 (b:=b2) (o:=o2 + i) (v:=.string ⟨y.toArray⟩) (by simp only [ZB]) (fun W hW=>⟨_,_,_,hW.keep k3u id,k4⟩) ?_
      have hmud : Mod (fun _=>False) w u.drew:=hmu.trans (Mod.refl _ _).drew
      cases hE : ((⟨x.toArray⟩ : ByteArray).toList == (⟨y.toArray⟩ : ByteArray).toList) with
      | true =>
        simp only [ZB,insVc,iopK,iopV,ne_eq,Nat.reduceEqDiff,reduceCtorEq,hE,g0,g1,g12,g13,hw1]
        exact ⟨l1.length - (i + 1),by omega,i + 1,by omega,rfl,rfl,hmud⟩
      | false =>
        simp only [ZB,endK,resK,packed,insVc,Zaa,hE]
        refine h _ false hmud (fun e => ?_)
        rw [e,hy] at hx
        have hxy : y = x:=Option.some.inj hx
        rw [hxy] at hE
        simp at hE
    · have d1 : ¬ (i : Int) < ((l1.length : Nat) : Int):=by omega
      simp only [ZB,endK,resK,packed,insVc,iopK,iopV,reduceCtorEq,Zaa,g12,g13,d1]
      exact h u true hmu (fun _=>rfl)
def Bk.fair (C : Bk) (n : Nat) : Prop:=C.small n∧(∀ c ∈ C.cs,c.n < 2 ^ 64)∧∀ b ∈ C.bs,b.key.size < 2 ^ 19
theorem doB_fair (a : Ag) (ha : a.right) {C : Bk} {n : Nat} (h : C.fair n) : (doB a C).fair (n + 1):=by
  obtain ⟨h1,h2,h3⟩:=h
  have hk : a.b.key.size≤400:=ha.1.2.2.2.1
  refine ⟨doB_small a h1, ?_⟩
  unfold doB
  split
  · unfold Bk.drop
    split
    · exact ⟨h2,h3⟩
    · exact ⟨h2,fun b hb=>h3 b (List.mem_filter.1 hb).1⟩
  split
  · unfold Bk.bind
    repeat' split
    all_goals first | exact ⟨h2,h3⟩ | (refine ⟨h2,fun b hb => ?_⟩; rcases List.mem_append.1 hb with hb | hb; exact h3 b hb; rw [List.mem_singleton.1 hb]; omega)
  split
  · unfold Bk.unbind
    split
    · exact ⟨h2,h3⟩
    · exact ⟨h2,fun b hb=>h3 b (List.mem_filter.1 hb).1⟩
  split
  · exact ⟨h2,h3⟩
  split
  · unfold Bk.next
    repeat' split
    · exact ⟨h2,h3⟩
    · exact ⟨h2,h3⟩
    · rename_i hz
      have hlt : nOf a.q.name C.cs < 2 ^ 64:=nOf_lt a.q.name C.cs 0 (by decide) h2
      refine ⟨fun c hc => ?_,h3⟩
      rcases List.mem_append.1 hc with hc | hc
      · exact h2 c (mem_otherC.1 hc).1
      · rw [List.mem_singleton.1 hc]
        show nOf a.q.name C.cs + 1 < 2 ^ 64
        omega
  · unfold Bk.declare
    repeat' split
    all_goals exact ⟨h2,h3⟩
theorem do21G_c (sb mb bk : Nat) (h0 : 0≠mb) (c : Nat) (map : M) (B C : Bk) (a : Ag) (m : Int) (w : World) (K : Value→World→Prop) (hAt : (shelf sb mb h0).At (c,map) w) (hb : BookAt w bk C) (hsb : sb < bk) (hmb : mb < bk) (hg : Gl m w) (hz : 0 < w.heap.size) (hbk0 : bk≠0)
    (hr : Rg B map) (hB : B.small (2 ^ 16)) (hC : C.fair (2 ^ 16)) (hml : map.length * 16≤140737488355328) (ha : a.right) (hc : c + 4 < maxLen)
    (h : ∀ w' c' map' r,Mod (fun k=>k = mb∨k = bk) w w'→(shelf sb mb h0).At (c',map') w'→BookAt w' bk (doB a C)→Rg (doB a B) map'→c'≤c + 1→map'.length≤map.length + 1→K (.bool r) w') :
    Ok Proofs.Tryz.prog 29 #[.iface 26 (ptr sb),ptr bk,a.val] w K:=by
  obtain ⟨⟨s1,s2,s3,s4,s5⟩,hq,hI⟩:=ha
  obtain ⟨z1,z2,z3⟩:=hB
  obtain ⟨⟨y1,y2,y3⟩,hcn,hck⟩:=hC
  refine F29.enter (args:=[.iface 26 (ptr sb),ptr bk,a.val]) (by simp) ?_
  unfold c29 r29
  obtain ⟨w1,hw1⟩ : ∃ w1,w1 = w.alloc (.cells #[.int .i64 a.act,.string a.q.name,.int .u32 a.q.most,.int .u64 a.q.ttl,.int .u32 a.q.tries,.string a.q.dead,.string a.b.ex,.int .i64 a.b.kind,.string a.b.key,.string a.b.q] 66):=⟨_,rfl⟩
  have hm1 : Mod (fun _=>False) w w1:=by rw [hw1]; exact (Mod.refl _ _).alloc _
  have x1 : w1.heap[w.heap.size]? = some (.cells #[.int .i64 a.act,.string a.q.name,.int .u32 a.q.most,.int .u64 a.q.ttl,.int .u32 a.q.tries,.string a.q.dead,.string a.b.ex,.int .i64 a.b.kind,.string a.b.key,.string a.b.q] 66 (0,0)):=by rw [hw1]; exact get_alloc_new _ _
  have hbkw : bk < w.heap.size:=by obtain ⟨_,_,_,h1,_⟩:=hb; exact lt_of_get h1
  have hA1:=(shelf sb mb h0).keep0 hAt hm1
  have hb1:=hb.keep hm1
  have hg1:=hg.mod hm1 id
  have hz1 : 0 < w1.heap.size:=by have:=hm1.size; omega
  have hvg : ∀ k,((shelf sb mb h0).get (c,map) k).1.1.size < 2 ^ 60:=fun k=>get_size sb mb h0 _ _ (by decide) hr.valsN _
  have e0t : ∀ z : Int,(z == z) = true:=fun z=>by simp
  have hpr : ∀ s : Nat × M,s = (c,map)→PureRng (shelf sb mb h0) s:=fun s e=>by rw [e]; exact pure_shelf sb mb h0 _ hml
  have hfs : ∀ name,((shelf sb mb h0).find (c,map) name).2 = (c,map):=fun name=>find_state sb mb h0 _ _
  have hfit : ∀ s : Nat × M,s = (c,map)→(shelf sb mb h0).fit s:=fun s e=>by rw [e]; show c < maxLen; omega
  have fin : ∀ (w3 w5 : World) (c' : Nat) (map' : M),Mod (fun k=>k = mb) w1 w3→(shelf sb mb h0).At (c',map') w3→Mod (fun k=>k = bk) w3 w5→BookAt w5 bk (doB a C)→Rg (doB a B) map'→c'≤c + 1→map'.length≤map.length + 1→∀ r,K (.bool r) w5:=by
    intro w3 w5 c' map' k1 k2 k3 k4 k5 k6 k7 r
    refine h w5 c' map' r (((hm1.mono fun _ _ x=>x.elim).trans (k1.mono fun _ _ x=>.inl x)).trans (k3.mono fun _ _ x=>.inr x)) ?_ k4 k5 k6 k7
    exact (shelf sb mb h0).keep _ _ _ _ k2 k3 (fun k _ e hf=>by rcases hf with hf | hf <;> omega)
  have hbm : ∀ w3,Mod (fun k=>k = mb) w1 w3→BookAt w3 bk C:=fun w3 k1=>hb1.mod k1 (fun k e _=>by omega)
  have hxm : ∀ w3,Mod (fun k=>k = mb) w1 w3→w3.heap[w.heap.size]? = some (.cells #[.int .i64 a.act,.string a.q.name,.int .u32 a.q.most,.int .u64 a.q.ttl,.int .u32 a.q.tries,.string a.q.dead,.string a.b.ex,.int .i64 a.b.kind,.string a.b.key,.string a.b.q] 66 (0,0)):=fun w3 k1=>k1.keep x1 (by omega)
  have t1:=Int.tmod_lt_of_pos a.act (b:=6) (by decide)
  have t2:=Int.lt_tmod_of_pos a.act (b:=6) (by decide)
  by_cases k1 : a.act.tmod 6 = 1∨a.act.tmod 6 = -1
  · have hdo : doB a B = (B.drop a.q.name).2:=by unfold doB; rw [if_pos k1]
    have hdoC : doB a C = (C.drop a.q.name).2:=by unfold doB; rw [if_pos k1]
    rw [hdoC,hdo] at fin
    obtain ⟨f1,f2⟩:=allB_facts sb mb h0 c hr a.q.name
    rcases k1 with k1 | k1
    all_goals
      simp only [ZB,insVc,load1K,iopK,iopV,faddrK,Value.cells,ne_eq,Nat.reduceEqDiff,reduceCtorEq,Zab,Za,Zaf,Zah,Zaa,Zap,Zac,Zag,Int.reduceNeg,Int.reduceEq,Int.reduceBEq,Ag.val,Ag.cells,Qu.cells,Bi.cells,get_alloc,Nat.reduceEqDiff,k1]
      rw [← hw1]
      refine draw_d (fun W=>W.heap[w.heap.size]? = some (.cells #[.int .i64 a.act,.string a.q.name,.int .u32 a.q.most,.int .u64 a.q.ttl,.int .u32 a.q.tries,.string a.q.dead,.string a.b.ex,.int .i64 a.b.kind,.string a.b.key,.string a.b.q] 66 (0,0))) (by kernel_rfl) (by kernel_rfl) (by kernel_rfl) (by kernel_rfl) x1 ?_
      simp only [ZB,endK,resK,packed,insVc,iopK,iopV,faddrK,ne_eq,Nat.reduceEqDiff,reduceCtorEq,Zab,Zad,Zae,Za,Zaf,Zaa,Zac,Zag,Int.reduceNeg,pureI,vcD_nil,vcD_cons,stepD_pure,stepD_load,stepD_step,kindI,loadI]
      refine loadD1 (b:=w.heap.size) (o:=1) (v:=.string a.q.name) rfl (fun W hW=>⟨_,_,_,hW,rfl⟩) ?_
      refine drop_c (shelfC sb mb h0) (c,map) a.q.name (hpr _ (hfs _)) m w1.drew _ hA1 hg1 hz1 (by omega) (hvg _) (by rw [show (thingsB ((shelfC sb mb h0).toSto.under ((shelfC sb mb h0).toSto.find (c,map) a.q.name).2 ⟨#[98]⟩ [])).length = _ from f1]; omega) f2 ?_
      intro w2 hm2 hA2
      have hm2 : Mod (fun k=>k = mb) w1 w2:=(Mod.refl _ _).drew.trans hm2
      obtain ⟨c',map',e,hc',hl',hr'⟩:=drop_shelf sb mb h0 c hr a.q.name
      rw [e] at hA2 ⊢
      refine ⟨hxm w2 hm2, ?_⟩
      refine loadD1 (b:=w.heap.size) (o:=1) (v:=.string a.q.name) rfl (fun W hW=>⟨_,_,_,hW,rfl⟩) ?_
      refine bdrop_c bk C a.q.name w2 _ (hbm w2 hm2) (by omega) (by omega) ?_
      intro w3 hm3 hb3
      refine ⟨hm3.keep (hxm w2 hm2) (by omega), ?_⟩
      simp only [true_and]
      exact fin w2 w3 c' map' hm2 hA2 hm3 hb3 hr' hc' hl' _
  by_cases k2 : a.act.tmod 6 = 2∨a.act.tmod 6 = -2
  · have hdo : doB a B = (B.bind a.b).2:=by unfold doB; rw [if_neg k1,if_pos k2]
    have hdoC : doB a C = (C.bind a.b).2:=by unfold doB; rw [if_neg k1,if_pos k2]
    rw [hdoC,hdo] at fin
    rcases k2 with k2 | k2
    all_goals
      simp only [ZB,insVc,load1K,iopK,iopV,faddrK,Value.cells,ne_eq,Nat.reduceEqDiff,reduceCtorEq,Zab,Za,Zaf,Zah,Zaa,Zap,Zac,Zag,Int.reduceNeg,Int.reduceEq,Int.reduceBEq,Ag.val,Ag.cells,Qu.cells,Bi.cells,get_alloc,Nat.reduceEqDiff,k2]
      rw [← hw1]
      refine draw_d (fun W=>W.heap[w.heap.size]? = some (.cells #[.int .i64 a.act,.string a.q.name,.int .u32 a.q.most,.int .u64 a.q.ttl,.int .u32 a.q.tries,.string a.q.dead,.string a.b.ex,.int .i64 a.b.kind,.string a.b.key,.string a.b.q] 66 (0,0))) (by kernel_rfl) (by kernel_rfl) (by kernel_rfl) (by kernel_rfl) x1 ?_
      simp only [ZB,endK,resK,packed,insVc,iopK,iopV,faddrK,ne_eq,Nat.reduceEqDiff,reduceCtorEq,Zab,Zad,Zae,Za,Zaf,Zaa,Zac,Zag,Int.reduceNeg,pureI,vcD_nil,vcD_cons,stepD_pure,stepD_load,stepD_step,kindI,loadI]
      refine loadDN (b:=w.heap.size) (o:=6) (v:=a.b.val) (by simp only [ZB,Int.reduceNeg]) (fun W hW=>⟨_,_,_,hW,by simp,rfl⟩) ?_
      refine bindR_c (shelf sb mb h0) (c,map) a.b (hpr _ (hfs _)) m w1.drew _ hA1 hg1 hz1 ⟨by omega,by omega,by omega⟩ (by omega) (hvg _) (hfit _ (by rw [hfs]; rfl)) ?_
      intro w2 hm2 hA2
      have hm2 : Mod (fun k=>k = mb) w1 w2:=(Mod.refl _ _).drew.trans hm2
      obtain ⟨c',map',e,hc',hl',hr'⟩:=bind_shelf sb mb h0 c hr a.b hI
      rw [e] at hA2 ⊢
      refine ⟨hxm w2 hm2, ?_⟩
      refine loadDN (b:=w.heap.size) (o:=6) (v:=a.b.val) (by simp only [ZB,Int.reduceNeg]) (fun W hW=>⟨_,_,_,hW,by simp,rfl⟩) ?_
      refine bbind_c bk C a.b w2 _ (hbm w2 hm2) (by omega) (by omega) (by omega) (by omega) (by omega) ?_
      intro w3 hm3 hb3
      refine ⟨hm3.keep (hxm w2 hm2) (by omega), ?_⟩
      simp only [true_and]
      exact fin w2 w3 c' map' hm2 hA2 hm3 hb3 hr' hc' hl' _
  by_cases k3 : a.act.tmod 6 = 3∨a.act.tmod 6 = -3
  · have hdo : doB a B = (B.unbind a.b).2:=by unfold doB; rw [if_neg k1,if_neg k2,if_pos k3]
    have hdoC : doB a C = (C.unbind a.b).2:=by unfold doB; rw [if_neg k1,if_neg k2,if_pos k3]
    rw [hdoC,hdo] at fin
    rcases k3 with k3 | k3
    all_goals
      simp only [ZB,insVc,load1K,iopK,iopV,faddrK,Value.cells,ne_eq,Nat.reduceEqDiff,reduceCtorEq,Zab,Za,Zaf,Zah,Zaa,Zap,Zac,Zag,Int.reduceNeg,Int.reduceEq,Int.reduceBEq,Ag.val,Ag.cells,Qu.cells,Bi.cells,get_alloc,Nat.reduceEqDiff,k3]
      rw [← hw1]
      refine draw_d (fun W=>W.heap[w.heap.size]? = some (.cells #[.int .i64 a.act,.string a.q.name,.int .u32 a.q.most,.int .u64 a.q.ttl,.int .u32 a.q.tries,.string a.q.dead,.string a.b.ex,.int .i64 a.b.kind,.string a.b.key,.string a.b.q] 66 (0,0))) (by kernel_rfl) (by kernel_rfl) (by kernel_rfl) (by kernel_rfl) x1 ?_
      simp only [ZB,endK,resK,packed,insVc,iopK,iopV,faddrK,ne_eq,Nat.reduceEqDiff,reduceCtorEq,Zab,Zad,Zae,Za,Zaf,Zaa,Zac,Zag,Int.reduceNeg,pureI,vcD_nil,vcD_cons,stepD_pure,stepD_load,stepD_step,kindI,loadI]
      refine loadDN (b:=w.heap.size) (o:=6) (v:=a.b.val) (by simp only [ZB,Int.reduceNeg]) (fun W hW=>⟨_,_,_,hW,by simp,rfl⟩) ?_
      refine unbind_c (shelfC sb mb h0) (c,map) a.b m w1.drew _ hA1 hg1 ⟨by omega,by omega,by omega⟩ ?_
      intro w2 hm2 hA2
      have hm2 : Mod (fun k=>k = mb) w1 w2:=(Mod.refl _ _).drew.trans hm2
      obtain ⟨c',map',e,hc',hl',hr'⟩:=unbind_shelf sb mb h0 c hr a.b hI
      rw [e] at hA2 ⊢
      refine ⟨hxm w2 hm2, ?_⟩
      refine loadDN (b:=w.heap.size) (o:=6) (v:=a.b.val) (by simp only [ZB,Int.reduceNeg]) (fun W hW=>⟨_,_,_,hW,by simp,rfl⟩) ?_
      refine bunbind_c bk C a.b w2 _ (hbm w2 hm2) (by omega) ?_
      intro w3 hm3 hb3
      refine ⟨hm3.keep (hxm w2 hm2) (by omega), ?_⟩
      simp only [true_and]
      exact fin w2 w3 c' map' hm2 hA2 hm3 hb3 hr' hc' hl' _
  by_cases k4 : a.act.tmod 6 = 4∨a.act.tmod 6 = -4
  · have hdo : doB a B = B:=by unfold doB; rw [if_neg k1,if_neg k2,if_neg k3,if_pos k4]
    have hdoC : doB a C = C:=by unfold doB; rw [if_neg k1,if_neg k2,if_neg k3,if_pos k4]
    rw [hdoC,hdo] at fin
    rcases k4 with k4 | k4
    all_goals
      simp only [ZB,insVc,load1K,iopK,iopV,faddrK,Value.cells,ne_eq,Nat.reduceEqDiff,Nat.reduceAdd,reduceCtorEq,Zab,Zad,Zae,Za,Zaf,Zah,Zaa,Zap,Zac,Zag,Int.reduceNeg,Int.reduceEq,Int.reduceBEq,Ag.val,Ag.cells,Qu.cells,Bi.cells,get_alloc,Nat.reduceAdd,Nat.reduceEqDiff,k4]
      rw [← hw1]
      refine route_any sb mb h0 c hr a.b.ex a.b.key m w1 _ hA1 hg1 hz1 (by omega) hml (by omega) (by omega) ?_
      intro w2 v2 hm2 hA2 hs2 hv2
      have x2:=hxm w2 hm2
      simp only [ZB,insVc,load1K,faddrK,extK,ne_eq,Nat.reduceEqDiff,Nat.reduceAdd,Zab,Zad,Zae,Za,Zaf,Zah,Int.reduceNeg,x2]
      refine broute_c bk C a.b.ex a.b.key w2 _ (hbm w2 hm2) (by omega) (by omega) (by omega) (by omega) hck ?_
      intro w3 v3 hm3 hs3
      simp only [ZB,insVc,extK,ne_eq,Nat.reduceEqDiff,Zad,Zae,Za,Zaf,Zah,Int.reduceNeg]
      have hln : ∀ D : Bk,D.bs.length≤2 ^ 16→(D.route a.b.ex a.b.key).1.length < 2 ^ 40:=by
        intro D hD
        have:=fitL_len a.b.ex a.b.key D.bs
        unfold Bk.route
        repeat' split
        all_goals simp
        omega
      refine equalG_c _ _ v2 v3 w3 _ (hs2.keep hm3) hs3 (hln B z2) (hln C y2) ?_
      intro w4 r4 hm4 _
      have fin4:=fin w2 w4 c map hm2 hA2 ((hm3.trans hm4).mono fun _ _ x=>x.elim) ((hbm w2 hm2).keep (hm3.trans hm4)) hr (by omega) (by omega)
      cases r4 with
      | true =>
        simp only [ZB,endK,resK,packed,insVc,pickK,iopK,iopV,ne_eq,Nat.reduceEqDiff,reduceCtorEq,Zaa,Zac,Int.reduceNeg]
        exact fin4 _
      | false =>
        simp only [ZB,endK,resK,packed,insVc,pickK,ne_eq,Nat.reduceEqDiff,Zaa,Zag,Int.reduceNeg]
        exact fin4 _
  by_cases k5 : a.act.tmod 6 = 5∨a.act.tmod 6 = -5
  · have hdo : doB a B = (B.next a.q.name).2:=by unfold doB; rw [if_neg k1,if_neg k2,if_neg k3,if_neg k4,if_pos k5]
    have hdoC : doB a C = (C.next a.q.name).2:=by unfold doB; rw [if_neg k1,if_neg k2,if_neg k3,if_neg k4,if_pos k5]
    rw [hdoC,hdo] at fin
    rcases k5 with k5 | k5
    all_goals
      simp only [ZB,insVc,load1K,iopK,iopV,faddrK,Value.cells,ne_eq,Nat.reduceEqDiff,reduceCtorEq,Zab,Zad,Zae,Za,Zaf,Zah,Zaa,Zap,Zac,Zag,Int.reduceNeg,Int.reduceEq,Int.reduceBEq,Ag.val,Ag.cells,Qu.cells,Bi.cells,get_alloc,Nat.reduceEqDiff,k5]
      rw [← hw1]
      refine next_c (shelf sb mb h0) (c,map) a.q.name m w1 _ hA1 hg1 (by omega) (hvg _) (hfit _ rfl) ?_
      intro w2 hm2 hA2
      obtain ⟨c',map',e,hc',hl',hr'⟩:=next_shelf sb mb h0 c hr a.q.name
      rw [e] at hA2 ⊢
      have x2:=hxm w2 hm2
      simp only [ZB,insVc,load1K,faddrK,extK,ne_eq,Nat.reduceEqDiff,Zab,Zad,Zae,Za,Zaf,Zah,Int.reduceNeg,x2]
      refine bnext_c bk C a.q.name w2 _ (hbm w2 hm2) (by omega) (by omega) hcn ?_
      intro w3 hm3 hb3
      have finN:=fin w2 w3 c' map' hm2 hA2 hm3 hb3 hr' hc' hl'
      cases hE : ((((B.next a.q.name).1.1 : Nat) : Int) == (((C.next a.q.name).1.1 : Nat) : Int)) with
      | true =>
        simp only [ZB,endK,resK,packed,insVc,pickK,iopK,iopV,extK,ne_eq,Nat.reduceEqDiff,reduceCtorEq,Za,Zaf,Zah,Zaa,Zac,Int.reduceNeg,hE]
        exact finN _
      | false =>
        simp only [ZB,endK,resK,packed,insVc,pickK,iopK,iopV,extK,ne_eq,Nat.reduceEqDiff,reduceCtorEq,Za,Zaf,Zah,Zaa,Zag,Int.reduceNeg,hE]
        exact finN _
  · have hdo : doB a B = (B.declare a.q).2:=by unfold doB; rw [if_neg k1,if_neg k2,if_neg k3,if_neg k4,if_neg k5]
    have hdoC : doB a C = (C.declare a.q).2:=by unfold doB; rw [if_neg k1,if_neg k2,if_neg k3,if_neg k4,if_neg k5]
    rw [hdoC,hdo] at fin
    have n1 : (a.act.tmod 6 == 1) = false:=by rw [beq_eq_false_iff_ne]; omega
    have n2 : (a.act.tmod 6 == -1) = false:=by rw [beq_eq_false_iff_ne]; omega
    have n3 : (a.act.tmod 6 == 2) = false:=by rw [beq_eq_false_iff_ne]; omega
    have n4 : (a.act.tmod 6 == -2) = false:=by rw [beq_eq_false_iff_ne]; omega
    have n5 : (a.act.tmod 6 == 3) = false:=by rw [beq_eq_false_iff_ne]; omega
    have n6 : (a.act.tmod 6 == -3) = false:=by rw [beq_eq_false_iff_ne]; omega
    have n7 : (a.act.tmod 6 == 4) = false:=by rw [beq_eq_false_iff_ne]; omega
    have n8 : (a.act.tmod 6 == -4) = false:=by rw [beq_eq_false_iff_ne]; omega
    have n9 : (a.act.tmod 6 == 5) = false:=by rw [beq_eq_false_iff_ne]; omega
    have n10 : (a.act.tmod 6 == -5) = false:=by rw [beq_eq_false_iff_ne]; omega
    simp only [ZB,insVc,load1K,iopK,iopV,faddrK,Value.cells,ne_eq,Nat.reduceEqDiff,reduceCtorEq,Zab,Za,Zaf,Zah,Zaa,Zap,Zac,Zag,Int.reduceNeg,Int.reduceEq,Ag.val,Ag.cells,Qu.cells,Bi.cells,get_alloc,Nat.reduceEqDiff,n1,n2,n3,n4,n5,n6,n7,n8,n9,n10]
    rw [← hw1]
    refine draw_d (fun W=>W.heap[w.heap.size]? = some (.cells #[.int .i64 a.act,.string a.q.name,.int .u32 a.q.most,.int .u64 a.q.ttl,.int .u32 a.q.tries,.string a.q.dead,.string a.b.ex,.int .i64 a.b.kind,.string a.b.key,.string a.b.q] 66 (0,0))) (by kernel_rfl) (by kernel_rfl) (by kernel_rfl) (by kernel_rfl) x1 ?_
    simp only [ZB,endK,resK,packed,insVc,iopK,iopV,faddrK,ne_eq,Nat.reduceEqDiff,reduceCtorEq,Zab,Zad,Zae,Za,Zaf,Zaa,Zac,Zag,pureI,vcD_nil,vcD_cons,stepD_pure,stepD_load,stepD_step,kindI,loadI]
    refine loadDN (b:=w.heap.size) (o:=1) (v:=a.q.val) (by simp only [ZB]) (fun W hW=>⟨_,_,_,hW,by simp,rfl⟩) ?_
    refine declare_c (shelf sb mb h0) (c,map) a.q m w1.drew _ hA1 hg1 (by omega) ⟨hq.1,hq.2.1,hq.2.2,by omega⟩ (by omega) hvg (fun k=>by rw [hfs]; exact hvg k) (hfit _ (hfs _)) (hfit _ (by rw [hfs,hfs])) ?_
    intro w2 hm2 hA2
    have hm2 : Mod (fun k=>k = mb) w1 w2:=(Mod.refl _ _).drew.trans hm2
    obtain ⟨c',map',e,hc',hl',hr'⟩:=declare_shelf2 sb mb h0 c hr a.q hq
    rw [e] at hA2 ⊢
    refine ⟨hxm w2 hm2, ?_⟩
    refine loadDN (b:=w.heap.size) (o:=1) (v:=a.q.val) (by simp only [ZB]) (fun W hW=>⟨_,_,_,hW,by simp,rfl⟩) ?_
    refine bdeclare_c bk C a.q w2 _ (hbm w2 hm2) (by omega) (by omega) (by omega) ?_
    intro w3 hm3 hb3
    refine ⟨hm3.keep (hxm w2 hm2) (by omega), ?_⟩
    simp only [true_and]
    exact fin w2 w3 c' map' hm2 hA2 hm3 hb3 hr' hc' hl' _
end Go.Oct
