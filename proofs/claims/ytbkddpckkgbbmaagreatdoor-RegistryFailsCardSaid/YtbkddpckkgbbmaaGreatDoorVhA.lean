import Derived.Test.YtbkddpckkgbbmaaGreatDoorVgW
import Derived.Test.YtbkddpckkgbbmaaGreatDoorVgO
import Derived.Test.YtbkddpckkgbbmaaGreatDoorKitA
import Derived.Test.YtbkddpckkgbbmaaGreatDoorVtD
import Derived.Test.YtbkddpckkgbbmaaGreatDoorVgK
set_option linter.unusedSimpArgs false
set_option linter.unusedVariables false
set_option linter.unusedSectionVars false
set_option linter.unnecessarySimpa false
namespace Go.Oct
open Go Go.Vc Go.VrA Go.VrF
set_option maxRecDepth 100000
section
variable (sb mb nb : Nat) (h0 : 0≠mb) (hn : 0≠nb) (hsn : nb≠sb) (hmn : nb≠mb)
variable {c : Nat} {map : M} {B : Bk} (hr : Rg B map)
theorem ffind_state (x : Nat × M) (l : Int) (name : ByteArray) : ((failing sb mb nb h0 hn hsn hmn).find (x,l) name).2.1 = x:=by
  unfold Sto.find
  split
  · rfl
  · show (fget (x,l) _).2.1 = x
    unfold fget
    split <;> rfl
theorem funder_state (x : Nat × M) (l : Int) (sort : ByteArray) (p : List Pt) : ((failing sb mb nb h0 hn hsn hmn).underS (x,l) sort p).2.1 = x:=by
  unfold Sto.underS
  split
  · rfl
  · show (frng (x,l) _ _).2.1 = x
    unfold frng
    split <;> rfl
theorem fget_state (s : FS) (k : ByteArray) : (fget s k).2.1 = s.1:=by
  unfold fget
  split <;> rfl
include hr
theorem fget_size (s : FS) (hs : s.1 = (c,map)) (k : ByteArray) : ((failing sb mb nb h0 hn hsn hmn).get s k).1.1.size < 2 ^ 60:=by
  show (fget s k).1.1.size < 2 ^ 60
  unfold fget
  split
  · show e0.size < 2 ^ 60
    decide
  · have:=get_size 1 2 (by decide) s.1 (2 ^ 60) (by decide) (by rw [hs]; exact hr.valsN) k
    exact this
theorem fx_facts (ex : ByteArray) (l : Int) : (thingsB ((failing sb mb nb h0 hn hsn hmn).underS ((c,map),l) ⟨#[98]⟩ [str ex]).1).length≤B.bs.length + 1∧∀ r ∈ thingsB ((failing sb mb nb h0 hn hsn hmn).underS ((c,map),l) ⟨#[98]⟩ [str ex]).1,r.1.key.size < 2 ^ 19:=by
  obtain ⟨f1,f2⟩:=exB_facts 1 2 (by decide) c hr ex
  by_cases hd : dec l < 0
  · by_cases he : ((underK ⟨#[98]⟩ [str ex]).1.toList == (⟨#[]⟩ : ByteArray).toList) = true
    · have e : (failing sb mb nb h0 hn hsn hmn).underS ((c,map),l) ⟨#[98]⟩ [str ex] = ([],((c,map),l)):=by unfold Sto.underS; rw [if_pos he]
      rw [e]
      exact ⟨Nat.zero_le _,fun r hr=>by cases hr⟩
    · have e : (failing sb mb nb h0 hn hsn hmn).underS ((c,map),l) ⟨#[98]⟩ [str ex] = ([(([],[]),10)],((c,map),dec l)):=by
        unfold Sto.underS
        rw [if_neg he]
        show frng ((c,map),l) _ _ = _
        unfold frng
        rw [if_pos hd]
      rw [e]
      refine ⟨Nat.succ_le_succ (Nat.zero_le _),fun r hr => ?_⟩
      have hr : r ∈ [((b0,(10 : Int)))]:=hr
      rw [List.mem_singleton.1 hr]
      decide
  · have e : ((failing sb mb nb h0 hn hsn hmn).underS ((c,map),l) ⟨#[98]⟩ [str ex]).1 = (shelf 1 2 (by decide)).under (c,map) ⟨#[98]⟩ [str ex]:=by
      unfold Sto.underS Sto.under
      split
      · rfl
      · show (frng ((c,map),l) _ _).1 = _
        unfold frng
        rw [if_neg hd]; rfl
    rw [e]
    exact ⟨by omega,f2⟩
theorem fb_facts (l : Int) : (thingsB ((failing sb mb nb h0 hn hsn hmn).underS ((c,map),l) ⟨#[98]⟩ []).1).length≤B.bs.length + 1∧∀ r ∈ thingsB ((failing sb mb nb h0 hn hsn hmn).underS ((c,map),l) ⟨#[98]⟩ []).1,r.1.good:=by
  obtain ⟨f1,f2⟩:=allB_facts 1 2 (by decide) c hr e0
  rw [find_state] at f1 f2
  rw [funder_b sb mb nb h0 hn hsn hmn hr]
  by_cases hd : dec l < 0
  · rw [if_pos hd]
    refine ⟨Nat.succ_le_succ (Nat.zero_le _),fun r hr => ?_⟩
    have hr : r ∈ [((b0,(10 : Int)))]:=hr
    rw [List.mem_singleton.1 hr]
    exact ⟨by decide,by decide,by decide⟩
  · rw [if_neg hd]
    exact ⟨by show _≤_; rw [f1]; omega,f2⟩
theorem froute_any (ex key : ByteArray) (l : Int) (m : Int) (w : World) (K : Value→World→Prop) (hAt : (failing sb mb nb h0 hn hsn hmn).At ((c,map),l) w) (hg : Gl m w) (hz : 0 < w.heap.size) (hf0 : ¬ (failing sb mb nb h0 hn hsn hmn).foot 0)
    (hB : B.bs.length≤2 ^ 16) (hml : map.length * 16≤140737488355328) (hex : ex.size≤400) (hk : key.size≤400) (hl : 0≤l) (hl2 : l < 50)
    (h : ∀ w' v (r : Int × FS),Mod (fun k=>k = mb∨k = nb) w w'→(failing sb mb nb h0 hn hsn hmn).At r.2 w'→SimE r (B.route ex key).2→K (.tuple #[v,.int .i64 r.1]) w') :
    Ok Proofs.Tryz.prog 32 #[.iface 77 (fval sb nb),.string ex,.string key] w K:=by
  cases hE : emptyB ex with
  | true =>
    obtain rfl : ex = ⟨#[]⟩:=by rw [emptyB_eq] at hE; exact of_decide_eq_true hE
    have hs:=find_fail sb mb nb h0 hn hsn hmn (c:=c) hr key l hl hl2
    refine route0_c (failing sb mb nb h0 hn hsn hmn) ((c,map),l) key m w _ hAt hg (by omega) (fget_size sb mb nb h0 hn hsn hmn hr _ rfl _) ?_ ?_
    · intro _ w' hm hA
      exact h w' _ (_,_) hm hA hs
    · intro he w' g hm hA _
      rw [he] at hs
      exact h w' _ (0,_) hm hA hs
  | false =>
    obtain ⟨f1,f2⟩:=fx_facts sb mb nb h0 hn hsn hmn hr ex l
    have hs:=route_fail sb mb nb h0 hn hsn hmn (c:=c) hr ex key l hl hl2 hE
    refine routeZ_c (failing sb mb nb h0 hn hsn hmn) ((c,map),l) (foot_failing sb mb nb h0 hn hsn hmn) hml hf0 ex key m w _ hAt hg hz hE (by omega) (by omega) (by omega) f2 ?_
    intro w' v hm hA
    exact h w' v (_,_) hm hA hs
end
end Go.Oct
namespace Go.Oct
open Go Go.Vc Go.VrA Go.VrF
set_option maxRecDepth 100000
noncomputable def c5l : CC:=subC c5 [1,1,1,1,1,0]
noncomputable def c5n : CC:=subC c5 [1,1,1,1,1,1]
noncomputable def c5s : CC:=subC c5 [1,1,1,1,1,1,1,1,1,0]
noncomputable def c5z : CC:=subC c5 [1,1,1,1,1,1,1,1,1,1]
theorem c5_s : c5 = .seq (subC c5 [0]) (.seq (subC c5 [1,0]) (.seq (subC c5 [1,1,0]) (.seq (subC c5 [1,1,1,0]) (.seq (subC c5 [1,1,1,1,0]) (.seq c5l c5n))))):=rfl
theorem c5n_s : c5n = .seq (subC c5 [1,1,1,1,1,1,0]) (.seq (subC c5 [1,1,1,1,1,1,1,0]) (.seq (subC c5 [1,1,1,1,1,1,1,1,0]) (.seq c5s c5z))):=rfl
theorem fails_acts (sb1 mb1 sb2 mb2 bk : Nat) (h01 : 0≠mb1) (h02 : 0≠mb2) (L : List Ag) (a : Option Addr) (cp : Nat) (m : Int) (wA w : World) (Q : QT) (ρ0 : Env) (hA1 : (shelf sb1 mb1 h01).At (0,[]) w) (hA2 : (shelf sb2 mb2 h02).At (0,[]) w) (hb : BookAt w bk bk0)
    (o1 : sb1 < bk) (o2 : mb1 < bk) (o3 : sb2 < bk) (o4 : mb2 < bk) (o5 : mb1≠sb2) (o6 : mb1≠mb2) (o7 : mb2≠sb1) (hg : Gl m w) (hz : 0 < w.heap.size) (hbk0 : bk≠0)
    (hmA : Mod (fun _=>False) wA w) (hmbA : wA.heap.size≤mb1) (hmbA2 : wA.heap.size≤mb2) (hbkA : wA.heap.size≤bk) (hat : ∀ (i : Nat) (x : Ag),L[i]? = some x→∃ b o c cur t f,(Value.slice a L.length cp) = .slice (some ⟨b,o,none⟩) L.length c∧wA.heap[b]? = some (.cells cur t f)∧o + i * 10 + 10≤cur.size∧cur.extract (o + i * 10) (o + i * 10 + 10) = x.cells.toArray)
    (hL : L.length≤20) (hok : ∀ x ∈ L,x.right)
    (r0 : ρ0 0 = .slice a L.length cp) (r7 : ρ0 7 = ptr sb1) (r8 : ρ0 8 = ptr sb2) (r9 : ρ0 9 = ptr bk)
    (h : ∀ w' ρ' c1 map1 c2 map2 B,Mod (fun k=>k = mb1∨k = mb2∨k = bk) w w'→(shelf sb1 mb1 h01).At (c1,map1) w'→(shelf sb2 mb2 h02).At (c2,map2) w'→Rg B map1→Rg B map2→c1≤20→c2≤20→map1.length≤20→map2.length≤20→B.small 20→ρ' 2 = ρ0 2→ρ' 4 = ρ0 4→ρ' 7 = ptr sb1→ρ' 8 = ptr sb2→Q .normal ρ' [] w') :
    vc Proofs.Tryz.prog none 132 c5l Q ρ0 [] w:=by
  have hwA:=hmA.size
  unfold c5l
  simp only [ZB,subC,c5,insVc,lenLK,Int.reduceNeg,r0]
  refine vc_loop (fun mm ρ ds u => ∃ (i : Nat) (B C : Bk) (c1 : Nat) (map1 : M) (c2 : Nat) (map2 : M),i≤L.length∧mm = L.length - i∧ds = []∧ρ 2 = ρ0 2∧ρ 4 = ρ0 4∧ρ 7 = ptr sb1∧ρ 8 = ptr sb2∧ρ 9 = ptr bk∧ρ 31 = .slice a L.length cp∧ρ 32 = .int .i64 L.length∧ρ 33 = .int .i64 i ∧
    Mod (fun k=>k = mb1∨k = mb2∨k = bk) w u∧(shelf sb1 mb1 h01).At (c1,map1) u∧(shelf sb2 mb2 h02).At (c2,map2) u∧BookAt u bk C∧Rg B map1∧Rg B map2∧c1≤i∧c2≤i∧map1.length≤i∧map2.length≤i∧B.small i∧C.fair (2 * i)) (L.length - 0) ?_ ?_
  · refine ⟨0,bk0,bk0,0,[],0,[],Nat.zero_le _,rfl,rfl,by simp only [ZB,ne_eq,Nat.reduceEqDiff],by simp only [ZB,ne_eq,Nat.reduceEqDiff],by simp only [ZB,ne_eq,Nat.reduceEqDiff,r7],by simp only [ZB,ne_eq,Nat.reduceEqDiff,r8],by simp only [ZB,ne_eq,Nat.reduceEqDiff,r9],by simp only [ZB,ne_eq,Nat.reduceEqDiff],by simp only [ZB,ne_eq,Nat.reduceEqDiff],by simp only [ZB] <;> rfl,Mod.refl _ _,hA1,hA2,hb,Rg.nil,Rg.nil,Nat.le_refl _,Nat.le_refl _,Nat.le_refl _,Nat.le_refl _,⟨Nat.le_refl _,Nat.le_refl _,Nat.le_refl _⟩,⟨Nat.le_refl _,Nat.le_refl _,Nat.le_refl _⟩, ?_, ?_⟩
    · intro c hc; cases hc
    · intro c hc; cases hc
  · rintro mm ρ ds u ⟨i,B,C,c1,map1,c2,map2,hi,rfl,rfl,g2,g4,g7,g8,g9,g31,g32,g33,hmu,hA1u,hA2u,hbu,hr1,hr2,hc1,hc2,hm1l,hm2l,hBs,hCf⟩
    by_cases c1' : i < L.length
    · have d1 : (i : Int) < ((L.length : Nat) : Int):=by omega
      obtain ⟨x,hxi⟩ : ∃ x,L[i]? = some x:=⟨L[i],List.getElem?_eq_getElem c1'⟩
      obtain ⟨b,o,cc,cur,t,f,he,hbh,hsz,hex⟩:=hat i x hxi
      have ha' : a = some ⟨b,o,none⟩:=by simpa using congrArg (fun x=>match x with | .slice a _ _=>a | _=>none) he
      subst ha'
      rw [Nat.add_assoc] at hsz hex
      have lb:=lt_of_get hbh
      have hbx:=hmu.keep (hmA.keep hbh id) (by omega)
      have hi0' : (0 : Int)≤(i : Int)∧(i : Int) < ((L.length : Nat) : Int):=by omega
      have hw1 : IntKind.i64.wrap ((i : Int) + 1) = ((i + 1 : Nat) : Int):=by rw [wrap_i64 _ (by omega)]; omega
      have hxr:=hok x (List.mem_of_getElem? hxi)
      have hms:=hmu.size
      obtain ⟨u1,hu1⟩ : ∃ u1,u1 = Vc.set (u.alloc (.cells #[.int .i64 0,.string ⟨#[]⟩,.int .u32 0,.int .u64 0,.int .u32 0,.string ⟨#[]⟩,.string ⟨#[]⟩,.int .i64 0,.string ⟨#[]⟩,.string ⟨#[]⟩] 66)) u.heap.size (.cells #[.int .i64 x.act,.string x.q.name,.int .u32 x.q.most,.int .u64 x.q.ttl,.int .u32 x.q.tries,.string x.q.dead,.string x.b.ex,.int .i64 x.b.kind,.string x.b.key,.string x.b.q] 66):=⟨_,rfl⟩
      have hmu1 : Mod (fun _=>False) u u1:=by rw [hu1]; exact ((Mod.refl _ _).alloc _).set (.inl (Nat.le_refl _))
      have px1 : u1.heap[u.heap.size]? = some (.cells #[.int .i64 x.act,.string x.q.name,.int .u32 x.q.most,.int .u64 x.q.ttl,.int .u32 x.q.tries,.string x.q.dead,.string x.b.ex,.int .i64 x.b.kind,.string x.b.key,.string x.b.q] 66 (0,0)):=by rw [hu1]; exact get_set_same _ _ _ (by simp only [size_alloc]; omega)
      have hz1:=hmu1.size
      have hbku : bk < u.heap.size:=by obtain ⟨_,_,_,h1,_⟩:=hbu; exact lt_of_get h1
      have hg1:=(hg.mod hmu (fun e=>by rcases e with e | e | e <;> omega)).mod hmu1 id
      have hval : (Value.agg #[.int .i64 x.act,.string x.q.name,.int .u32 x.q.most,.int .u64 x.q.ttl,.int .u32 x.q.tries,.string x.q.dead,.string x.b.ex,.int .i64 x.b.kind,.string x.b.key,.string x.b.q]) = x.val:=rfl
      have hA11:=(shelf sb1 mb1 h01).keep0 hA1u hmu1
      have hA21:=(shelf sb2 mb2 h02).keep0 hA2u hmu1
      have hb1:=hbu.keep hmu1
      have hz1' : 0 < u1.heap.size:=by omega
      have hBs1 : B.small (2 ^ 16):=⟨by have:=hBs.1; omega,by have:=hBs.2.1; omega,by have:=hBs.2.2; omega⟩
      have fair : ∀ (D : Bk) (n : Nat),D.fair n→n≤2 ^ 16→D.fair (2 ^ 16):=fun D n hD hn=>⟨⟨Nat.le_trans hD.1.1 hn,Nat.le_trans hD.1.2.1 hn,Nat.le_trans hD.1.2.2 hn⟩,hD.2⟩
      have hCf1 : C.fair (2 ^ 16):=fair C _ hCf (by omega)
      have hCf2:=doB_fair x hxr hCf
      have hCf2' : (doB x C).fair (2 ^ 16):=fair _ _ hCf2 (by omega)
      have hCf3:=doB_fair x hxr hCf2
      have hml1 : map1.length * 16≤140737488355328:=by omega
      have hml2 : map2.length * 16≤140737488355328:=by omega
      have hc1m : c1 + 4 < maxLen:=by show c1 + 4 < 9223372036854775807; omega
      have hc2m : c2 + 4 < maxLen:=by show c2 + 4 < 9223372036854775807; omega
      simp only [ZB,insVc,loadNK,storeNK,setMany,iopK,iopV,iaddrK,isPlain,Value.cells,ne_eq,Nat.reduceEqDiff,Nat.reduceAdd,Nat.reduceLeDiff,reduceCtorEq,Zad,Zae,Zak,Zai,Zaj,Zal,Zam,Zan,Zaa,Zap,Zac,Zax,Zb,Zaz,Zav,Zar,Zay,Zaw,Zas,Zat,Zau,Zbe,Zao,get_alloc,Zaq,Nat.reduceAdd,Nat.reduceEqDiff,g7,g9,g31,g32,g33,d1,hi0',hbx,hsz,hex,Ag.cells,Qu.cells,Bi.cells]
      rw [← hu1,hval]
      refine do21G_c sb1 mb1 bk h01 c1 map1 B C x m u1 _ hA11 hb1 o1 o2 hg1 hz1' hbk0 hr1 hBs1 hCf1 hml1 hxr hc1m ?_
      intro u2 c1n map1n q1 hm2 hA12 hb2 hr1n hc1n hm1n
      have hA22 : (shelf sb2 mb2 h02).At (c2,map2) u2:=(shelf sb2 mb2 h02).keep _ _ _ _ hA21 hm2 (fun k _ e hf=>by rcases hf with hf | hf <;> rcases e with e | e <;> omega)
      have px2:=hm2.keep px1 (fun e=>by rcases e with e | e <;> omega)
      have hg2:=hg1.mod hm2 (fun e=>by rcases e with e | e <;> omega)
      have hz2' : 0 < u2.heap.size:=by have:=hm2.size; omega
      simp only [ZB,insVc,loadNK,ne_eq,Nat.reduceEqDiff,Nat.reduceAdd,Nat.reduceLeDiff,Zad,Zae,Zak,Zai,Zaj,Zb,Zaz,Zav,Zar,Zay,Zaw,g8,g9,px2]
      rw [hval]
      refine do21G_c sb2 mb2 bk h02 c2 map2 B (doB x C) x m u2 _ hA22 hb2 o3 o4 hg2 hz2' hbk0 hr2 hBs1 hCf2' hml2 hxr hc2m ?_
      intro u3 c2n map2n q2 hm3 hA23 hb3 hr2n hc2n hm2n
      have hA13 : (shelf sb1 mb1 h01).At (c1n,map1n) u3:=(shelf sb1 mb1 h01).keep _ _ _ _ hA12 hm3 (fun k _ e hf=>by rcases hf with hf | hf <;> rcases e with e | e <;> omega)
      have hs2:=doB_small x hBs
      simp only [ZB,insVc,iopK,iopV,ne_eq,Nat.reduceEqDiff,reduceCtorEq,g2,g4,g7,g8,g9,g31,g32,g33,hw1]
      refine ⟨L.length - (i + 1),by omega,i + 1,doB x B,doB x (doB x C),c1n,map1n,c2n,map2n,by omega,rfl,rfl, ?_,hA13,hA23,hb3,hr1n,hr2n,by omega,by omega,by omega,by omega,hs2,hCf3⟩
      exact ((hmu.trans (hmu1.mono fun _ _ x=>x.elim)).trans (hm2.mono fun k _ e=>by rcases e with e | e; exact .inl e; exact .inr (.inr e))).trans (hm3.mono fun k _ e=>.inr e)
    · have d1 : ¬ (i : Int) < ((L.length : Nat) : Int):=by omega
      simp only [ZB,insVc,iopK,iopV,reduceCtorEq,g32,g33,d1]
      exact h u _ c1 map1 c2 map2 B hmu hA1u hA2u hr1 hr2 (by omega) (by omega) (by omega) (by omega) ⟨by have:=hBs.1; omega,by have:=hBs.2.1; omega,by have:=hBs.2.2; omega⟩ g2 g4 g7 g8
end Go.Oct
namespace Go.Oct
open Go Go.Vc Go.VrA Go.VrF
set_option maxRecDepth 100000
set_option maxHeartbeats 2000000
theorem fails_switch (sb mb nb sb2 mb2 p4 p13 : Nat) (h0 : 0≠mb) (hn : 0≠nb) (hsn : nb≠sb) (hmn : nb≠mb) (h02 : 0≠mb2) (hsb0 : 0≠sb) (o1 : mb≠sb2) (o2 : mb≠mb2) (o3 : nb≠sb2) (o4 : nb≠mb2) (o5 : mb2≠sb) (a : Ag) (ha : a.right)
    (x4 : p4≠mb∧p4≠nb∧p4≠mb2) (x13 : p13≠mb∧p13≠nb∧p13≠mb2) (c c2 : Nat) (map map2 : M) (B : Bk) (l : Int) (m : Int) (w : World) (Q : QT) (ρ0 : Env)
    (hF : (failing sb mb nb h0 hn hsn hmn).At ((c,map),l) w) (hA2 : (shelf sb2 mb2 h02).At (c2,map2) w) (hg : Gl m w) (hz : 0 < w.heap.size) (hr : Rg B map) (hr2 : Rg B map2) (hB : B.small 20) (hml : map.length≤20) (hml2 : map2.length≤20) (hc : c≤20) (hc2 : c2≤20) (hl : 0≤l) (hl2 : l < 50)
    (h4 : w.heap[p4]? = some (.cells #[.int .i64 a.act,.string a.q.name,.int .u32 a.q.most,.int .u64 a.q.ttl,.int .u32 a.q.tries,.string a.q.dead,.string a.b.ex,.int .i64 a.b.kind,.string a.b.key,.string a.b.q] 66 (0,0)))
    (h13 : w.heap[p13]? = some (.cells #[ptr sb,ptr nb] 77 (0,0)))
    (r4 : ρ0 4 = ptr p4) (r8 : ρ0 8 = ptr sb2) (r13 : ρ0 13 = ptr p13)
    (h : ∀ w' ρ' (r : Int × FS) (e : Int),Mod (fun k=>k = mb∨k = nb∨k = mb2) w w'→(failing sb mb nb h0 hn hsn hmn).At r.2 w'→SimE r e→ρ' 12 = ρ0 12→ρ' 14 = .int .i64 r.1→ρ' 15 = .int .i64 e→Q .normal ρ' [] w') :
    vc Proofs.Tryz.prog none 132 c5s Q ρ0 [] w:=by
  obtain ⟨⟨s1,s2,s3,s4,s5⟩,hq,hI⟩:=ha
  obtain ⟨z1,z2,z3⟩:=hB
  have hml' : map.length * 16≤140737488355328:=by omega
  have hml2' : map2.length * 16≤140737488355328:=by omega
  have hf0 : ¬ (failing sb mb nb h0 hn hsn hmn).foot 0:=by rintro (e | e | e) <;> omega
  have hfs:=foot_failing sb mb nb h0 hn hsn hmn
  have hvg2 : ∀ k,((shelf sb2 mb2 h02).get (c2,map2) k).1.1.size < 2 ^ 60:=fun k=>get_size sb2 mb2 h02 _ _ (by decide) hr2.valsN _
  have hpr2 : ∀ s : Nat × M,s = (c2,map2)→PureRng (shelf sb2 mb2 h02) s:=fun s e=>by rw [e]; exact pure_shelf sb2 mb2 h02 _ hml2'
  have hfs2 : ∀ name,((shelf sb2 mb2 h02).find (c2,map2) name).2 = (c2,map2):=fun name=>find_state sb2 mb2 h02 _ _
  have hfit2 : ∀ s : Nat × M,s = (c2,map2)→(shelf sb2 mb2 h02).fit s:=fun s e=>by rw [e]; show c2 < 9223372036854775807; omega
  have hrfF : ∀ s : FS,s.1 = (c,map)→(failing sb mb nb h0 hn hsn hmn).rfit s:=fun s e=>by show s.1.2.length * 16≤_; rw [e]; exact hml'
  have hfitF : ∀ s : FS,s.1 = (c,map)→(failing sb mb nb h0 hn hsn hmn).fit s:=fun s e=>by show s.1.1 < 9223372036854775807; rw [e]; show c < 9223372036854775807; omega
  have hvgF:=fun (s : FS) (hs : s.1 = (c,map)) k=>fget_size sb mb nb h0 hn hsn hmn (c:=c) hr s hs k
  have t1:=Int.tmod_lt_of_pos a.act (b:=4) (by decide)
  have t2:=Int.lt_tmod_of_pos a.act (b:=4) (by decide)
  have mid : ∀ (w2 : World) (r2 : FS),Mod (fun k=>k = mb∨k = nb) w w2→(failing sb mb nb h0 hn hsn hmn).At r2 w2→(shelf sb2 mb2 h02).At (c2,map2) w2∧Gl m w2∧0 < w2.heap.size∧w2.heap[p4]? = some (.cells #[.int .i64 a.act,.string a.q.name,.int .u32 a.q.most,.int .u64 a.q.ttl,.int .u32 a.q.tries,.string a.q.dead,.string a.b.ex,.int .i64 a.b.kind,.string a.b.key,.string a.b.q] 66 (0,0))∧w2.heap[p13]? = some (.cells #[ptr sb,ptr nb] 77 (0,0)):=by
    intro w2 r2 hm hA
    refine ⟨(shelf sb2 mb2 h02).keep _ _ _ _ hA2 hm (fun k _ e hf=>by rcases hf with hf | hf <;> rcases e with e | e <;> omega),hg.mod hm (fun e=>by rcases e with e | e <;> omega),by have:=hm.size; omega,hm.keep h4 (fun e=>by rcases e with e | e <;> omega),hm.keep h13 (fun e=>by rcases e with e | e <;> omega)⟩
  have fin : ∀ (w2 w3 : World) (ρ' : Env) (r : Int × FS) (e : Int),Mod (fun k=>k = mb∨k = nb) w w2→(failing sb mb nb h0 hn hsn hmn).At r.2 w2→Mod (fun k=>k = mb2) w2 w3→SimE r e→ρ' 12 = ρ0 12→ρ' 14 = .int .i64 r.1→ρ' 15 = .int .i64 e→Q .normal ρ' [] w3:=by
    intro w2 w3 ρ' r e k1 k2 k3 k4 k5 k6 k7
    refine h w3 ρ' r e ((k1.mono fun k _ e=>by rcases e with e | e; exact .inl e; exact .inr (.inl e)).trans (k3.mono fun k _ e=>.inr (.inr e))) ?_ k4 k5 k6 k7
    exact (failing sb mb nb h0 hn hsn hmn).keep _ _ _ _ k2 k3 (fun k _ e hf=>by rcases hf with hf | hf | hf <;> omega)
  have hfix : ∀ (w2 w3 : World),w2.heap[p13]? = some (.cells #[ptr sb,ptr nb] 77 (0,0))→w2.heap[p4]? = some (.cells #[.int .i64 a.act,.string a.q.name,.int .u32 a.q.most,.int .u64 a.q.ttl,.int .u32 a.q.tries,.string a.q.dead,.string a.b.ex,.int .i64 a.b.kind,.string a.b.key,.string a.b.q] 66 (0,0))→Mod (fun k=>k = mb2) w2 w3 →
      w3.heap[p13]? = some (.cells #[ptr sb,ptr nb] 77 (0,0))∧w3.heap[p4]? = some (.cells #[.int .i64 a.act,.string a.q.name,.int .u32 a.q.most,.int .u64 a.q.ttl,.int .u32 a.q.tries,.string a.q.dead,.string a.b.ex,.int .i64 a.b.kind,.string a.b.key,.string a.b.q] 66 (0,0)) :=
    fun w2 w3 k1 k2 hm=>⟨hm.keep k1 x13.2.2,hm.keep k2 x4.2.2⟩
  unfold c5s
  by_cases k1 : a.act.tmod 4 = 1∨a.act.tmod 4 = -1
  · have fA : ∀ _ : Unit,_:=fun _=>allB_facts sb2 mb2 h02 c2 hr2 a.q.name
    have fB : ∀ _ : Unit,(thingsB ((failing sb mb nb h0 hn hsn hmn).underS ((failing sb mb nb h0 hn hsn hmn).find ((c,map),l) a.q.name).2 ⟨#[98]⟩ []).1).length < 2 ^ 19∧∀ r ∈ thingsB ((failing sb mb nb h0 hn hsn hmn).underS ((failing sb mb nb h0 hn hsn hmn).find ((c,map),l) a.q.name).2 ⟨#[98]⟩ []).1,r.1.good:=by
      intro _
      have hst:=ffind_state sb mb nb h0 hn hsn hmn (c,map) l a.q.name
      generalize ((failing sb mb nb h0 hn hsn hmn).find ((c,map),l) a.q.name).2 = s at hst ⊢
      obtain ⟨sx,sl⟩:=s
      have hst : sx = (c,map):=hst
      subst hst
      have:=fb_facts sb mb nb h0 hn hsn hmn (c:=c) hr sl
      refine ⟨Nat.lt_of_le_of_lt this.1 ?_,this.2⟩
      clear this
      omega
    have hsim:=drop_fail sb mb nb h0 hn hsn hmn (c:=c) hr a.q.name l hl hl2
    rcases k1 with k1 | k1
    all_goals
      simp only [ZB,subC,c5,insVc,load1K,iopK,iopV,faddrK,ne_eq,Nat.reduceEqDiff,reduceCtorEq,Za,Zah,Zag,Int.reduceNeg,Int.reduceEq,Int.reduceBEq,r4,h4,k1]
      refine draw_d (fun W=>W.heap[p13]? = some (.cells #[ptr sb,ptr nb] 77 (0,0))∧W.heap[p4]? = some (.cells #[.int .i64 a.act,.string a.q.name,.int .u32 a.q.most,.int .u64 a.q.ttl,.int .u32 a.q.tries,.string a.q.dead,.string a.b.ex,.int .i64 a.b.kind,.string a.b.key,.string a.b.q] 66 (0,0))) (by kernel_rfl) (by kernel_rfl) (by kernel_rfl) (by kernel_rfl) ⟨h13,h4⟩ ?_
      simp only [ZB,insVc,faddrK,ne_eq,Nat.reduceEqDiff,Zad,Zae,Zac,Zag,Int.reduceNeg,pureI,vcD_nil,vcD_cons,stepD_pure,stepD_load,stepD_step,kindI,loadI,r4,r8]
      refine loadDN (b:=p13) (o:=0) (v:=fval sb nb) (by simp only [ZB,ne_eq,Nat.reduceEqDiff,Int.reduceNeg,r13]) (fun W hW=>⟨_,_,_,hW.1,by simp,rfl⟩) ?_
      refine loadD1 (b:=p4) (o:=1) (v:=.string a.q.name) (by simp only [ZB,Int.reduceNeg]) (fun W hW=>⟨_,_,_,hW.2,rfl⟩) ?_
      refine dropZ_c (failingC sb mb nb h0 hn hsn hmn) ((c,map),l) a.q.name hfs (hrfF _ (ffind_state sb mb nb h0 hn hsn hmn _ _ _)) hf0 m w.drew _ hF hg hz (by omega) (hvgF _ rfl _) (fB ()).1 (fB ()).2 ?_
      intro w2 hm2 hF2
      have hm2 : Mod (fun k=>k = mb∨k = nb) w w2:=(Mod.refl _ _).drew.trans hm2
      obtain ⟨y1,y2,y3,y4,y5⟩:=mid w2 _ hm2 hF2
      refine ⟨⟨y5,y4⟩, ?_⟩
      refine loadD1 (b:=p4) (o:=1) (v:=.string a.q.name) (by simp only [ZB,Int.reduceNeg]) (fun W hW=>⟨_,_,_,hW.2,rfl⟩) ?_
      refine drop_c (shelfC sb2 mb2 h02) (c2,map2) a.q.name (hpr2 _ (hfs2 _)) m w2 _ y1 y2 y3 (by omega) (hvg2 _) (by rw [show (thingsB ((shelfC sb2 mb2 h02).toSto.under ((shelfC sb2 mb2 h02).toSto.find (c2,map2) a.q.name).2 ⟨#[98]⟩ [])).length = _ from (fA ()).1]; omega) (fA ()).2 ?_
      intro w3 hm3 _
      obtain ⟨c',map',e,_⟩:=drop_shelf sb2 mb2 h02 c2 hr2 a.q.name
      rw [e]
      refine ⟨hfix w2 w3 y5 y4 hm3, ?_⟩
      simp only [Int.reduceNeg]
      exact fin w2 w3 _ _ _ hm2 hF2 hm3 hsim (by simp only [ZB,ne_eq,Nat.reduceEqDiff,Int.reduceNeg]) (by simp only [ZB,ne_eq,Nat.reduceEqDiff,Int.reduceNeg]) (by simp only [ZB,Int.reduceNeg])
  by_cases k2 : a.act.tmod 4 = 2∨a.act.tmod 4 = -2
  · have hsim:=bind_fail sb mb nb h0 hn hsn hmn (c:=c) hr a.b hI l hl hl2
    have hmixs : ((failing sb mb nb h0 hn hsn hmn).mixZ ((failing sb mb nb h0 hn hsn hmn).find ((c,map),l) a.b.q).2 a.b).2.1 = (c,map):=by
      have hst:=ffind_state sb mb nb h0 hn hsn hmn (c,map) l a.b.q
      generalize ((failing sb mb nb h0 hn hsn hmn).find ((c,map),l) a.b.q).2 = s at hst ⊢
      obtain ⟨sx,sl⟩:=s
      have hst : sx = (c,map):=hst
      subst hst
      exact funder_state sb mb nb h0 hn hsn hmn _ _ _ _
    have hgs : ∀ s k,((failing sb mb nb h0 hn hsn hmn).get s k).2.1 = s.1:=fun s k=>fget_state s k
    rcases k2 with k2 | k2
    all_goals
      simp only [ZB,subC,c5,insVc,load1K,iopK,iopV,faddrK,ne_eq,Nat.reduceEqDiff,reduceCtorEq,Za,Zah,Zag,Int.reduceNeg,Int.reduceEq,Int.reduceBEq,r4,h4,k2]
      refine draw_d (fun W=>W.heap[p13]? = some (.cells #[ptr sb,ptr nb] 77 (0,0))∧W.heap[p4]? = some (.cells #[.int .i64 a.act,.string a.q.name,.int .u32 a.q.most,.int .u64 a.q.ttl,.int .u32 a.q.tries,.string a.q.dead,.string a.b.ex,.int .i64 a.b.kind,.string a.b.key,.string a.b.q] 66 (0,0))) (by kernel_rfl) (by kernel_rfl) (by kernel_rfl) (by kernel_rfl) ⟨h13,h4⟩ ?_
      simp only [ZB,insVc,faddrK,ne_eq,Nat.reduceEqDiff,Zad,Zae,Zac,Zag,Int.reduceNeg,pureI,vcD_nil,vcD_cons,stepD_pure,stepD_load,stepD_step,kindI,loadI,r4,r8]
      refine loadDN (b:=p13) (o:=0) (v:=fval sb nb) (by simp only [ZB,ne_eq,Nat.reduceEqDiff,Int.reduceNeg,r13]) (fun W hW=>⟨_,_,_,hW.1,by simp,rfl⟩) ?_
      refine loadDN (b:=p4) (o:=6) (v:=a.b.val) (by simp only [ZB,Int.reduceNeg]) (fun W hW=>⟨_,_,_,hW.2,by simp,rfl⟩) ?_
      refine bindZ_c (failing sb mb nb h0 hn hsn hmn) ((c,map),l) a.b hfs (hrfF _ (ffind_state sb mb nb h0 hn hsn hmn _ _ _)) hf0 m w.drew _ hF hg hz ⟨by omega,by omega,by omega⟩ (by omega) (hvgF _ rfl _) (hfitF _ (by rw [hgs]; exact hmixs)) ?_
      intro w2 hm2 hF2
      have hm2 : Mod (fun k=>k = mb∨k = nb) w w2:=(Mod.refl _ _).drew.trans hm2
      obtain ⟨y1,y2,y3,y4,y5⟩:=mid w2 _ hm2 hF2
      refine ⟨⟨y5,y4⟩, ?_⟩
      refine loadDN (b:=p4) (o:=6) (v:=a.b.val) (by simp only [ZB,Int.reduceNeg]) (fun W hW=>⟨_,_,_,hW.2,by simp,rfl⟩) ?_
      refine bindR_c (shelf sb2 mb2 h02) (c2,map2) a.b (hpr2 _ (hfs2 _)) m w2 _ y1 y2 y3 ⟨by omega,by omega,by omega⟩ (by omega) (hvg2 _) (hfit2 _ (by rw [hfs2]; rfl)) ?_
      intro w3 hm3 _
      obtain ⟨c',map',e,_⟩:=bind_shelf sb2 mb2 h02 c2 hr2 a.b hI
      rw [e]
      refine ⟨hfix w2 w3 y5 y4 hm3, ?_⟩
      simp only [Int.reduceNeg]
      exact fin w2 w3 _ _ _ hm2 hF2 hm3 hsim (by simp only [ZB,ne_eq,Nat.reduceEqDiff,Int.reduceNeg]) (by simp only [ZB,ne_eq,Nat.reduceEqDiff,Int.reduceNeg]) (by simp only [ZB,Int.reduceNeg])
  by_cases k3 : a.act.tmod 4 = 3∨a.act.tmod 4 = -3
  · rcases k3 with k3 | k3
    all_goals
      simp only [ZB,subC,c5,insVc,load1K,loadNK,iopK,iopV,faddrK,ne_eq,Nat.reduceEqDiff,Nat.reduceAdd,Nat.reduceLeDiff,reduceCtorEq,Zad,Zae,Za,Zaf,Zah,Zak,Zai,Zaj,Zag,Int.reduceNeg,Int.reduceEq,Int.reduceBEq,Zb,Zaz,Zav,Zar,Zay,Zaw,r4,r13,h4,h13,k3]
      refine froute_any sb mb nb h0 hn hsn hmn hr a.b.ex a.b.key l m w _ hF hg hz hf0 (by omega) hml' (by omega) (by omega) hl hl2 ?_
      intro w2 v2 rr hm2 hF2 hsim
      obtain ⟨y1,y2,y3,y4,y5⟩:=mid w2 _ hm2 hF2
      simp only [ZB,insVc,load1K,faddrK,extK,ne_eq,Nat.reduceEqDiff,Nat.reduceAdd,Zad,Zae,Za,Zaf,Zah,Int.reduceNeg,r4,r8,y4]
      refine route_any sb2 mb2 h02 c2 hr2 a.b.ex a.b.key m w2 _ y1 y2 y3 (by omega) hml2' (by omega) (by omega) ?_
      intro w3 v3 hm3 _ _ _
      simp only [ZB,insVc,extK,ne_eq,Nat.reduceEqDiff,Za,Zaf,Zah,Int.reduceNeg]
      exact fin w2 w3 _ rr _ hm2 hF2 hm3 hsim (by simp only [ZB,ne_eq,Nat.reduceEqDiff,Int.reduceNeg]) (by simp only [ZB,ne_eq,Nat.reduceEqDiff,Int.reduceNeg]) (by simp only [ZB,Int.reduceNeg])
  · have n1 : (a.act.tmod 4 == 1) = false:=by rw [beq_eq_false_iff_ne]; omega
    have n2 : (a.act.tmod 4 == -1) = false:=by rw [beq_eq_false_iff_ne]; omega
    have n3 : (a.act.tmod 4 == 2) = false:=by rw [beq_eq_false_iff_ne]; omega
    have n4 : (a.act.tmod 4 == -2) = false:=by rw [beq_eq_false_iff_ne]; omega
    have n5 : (a.act.tmod 4 == 3) = false:=by rw [beq_eq_false_iff_ne]; omega
    have n6 : (a.act.tmod 4 == -3) = false:=by rw [beq_eq_false_iff_ne]; omega
    have hsim:=declare_fail sb mb nb h0 hn hsn hmn (c:=c) hr a.q hq l hl hl2
    have hst1:=ffind_state sb mb nb h0 hn hsn hmn (c,map) l a.q.name
    have hst2 : ((failing sb mb nb h0 hn hsn hmn).find ((failing sb mb nb h0 hn hsn hmn).find ((c,map),l) a.q.name).2 a.q.dead).2.1 = (c,map):=by
      generalize ((failing sb mb nb h0 hn hsn hmn).find ((c,map),l) a.q.name).2 = s at hst1 ⊢
      obtain ⟨sx,sl⟩:=s
      have hst1 : sx = (c,map):=hst1
      subst hst1
      exact ffind_state sb mb nb h0 hn hsn hmn _ _ _
    simp only [ZB,subC,c5,insVc,load1K,iopK,iopV,faddrK,ne_eq,Nat.reduceEqDiff,reduceCtorEq,Za,Zah,Zag,Int.reduceNeg,Int.reduceEq,r4,h4,n1,n2,n3,n4,n5,n6]
    refine draw_d (fun W=>W.heap[p13]? = some (.cells #[ptr sb,ptr nb] 77 (0,0))∧W.heap[p4]? = some (.cells #[.int .i64 a.act,.string a.q.name,.int .u32 a.q.most,.int .u64 a.q.ttl,.int .u32 a.q.tries,.string a.q.dead,.string a.b.ex,.int .i64 a.b.kind,.string a.b.key,.string a.b.q] 66 (0,0))) (by kernel_rfl) (by kernel_rfl) (by kernel_rfl) (by kernel_rfl) ⟨h13,h4⟩ ?_
    simp only [ZB,insVc,faddrK,ne_eq,Nat.reduceEqDiff,Zad,Zae,Zac,Zag,pureI,vcD_nil,vcD_cons,stepD_pure,stepD_load,stepD_step,kindI,loadI,r4,r8]
    refine loadDN (b:=p13) (o:=0) (v:=fval sb nb) (by simp only [ZB,ne_eq,Nat.reduceEqDiff,r13]) (fun W hW=>⟨_,_,_,hW.1,by simp,rfl⟩) ?_
    refine loadDN (b:=p4) (o:=1) (v:=a.q.val) (by simp only [ZB]) (fun W hW=>⟨_,_,_,hW.2,by simp,rfl⟩) ?_
    refine declare_c (failing sb mb nb h0 hn hsn hmn) ((c,map),l) a.q m w.drew _ hF hg (by omega) ⟨hq.1,hq.2.1,hq.2.2,by omega⟩ (by omega) (hvgF _ rfl) (hvgF _ hst1) (hfitF _ hst1) (hfitF _ hst2) ?_
    intro w2 hm2 hF2
    have hm2 : Mod (fun k=>k = mb∨k = nb) w w2:=(Mod.refl _ _).drew.trans hm2
    obtain ⟨y1,y2,y3,y4,y5⟩:=mid w2 _ hm2 hF2
    refine ⟨⟨y5,y4⟩, ?_⟩
    refine loadDN (b:=p4) (o:=1) (v:=a.q.val) (by simp only [ZB]) (fun W hW=>⟨_,_,_,hW.2,by simp,rfl⟩) ?_
    refine declare_c (shelf sb2 mb2 h02) (c2,map2) a.q m w2 _ y1 y2 (by omega) ⟨hq.1,hq.2.1,hq.2.2,by omega⟩ (by omega) hvg2 (fun k=>by rw [hfs2]; exact hvg2 k) (hfit2 _ (hfs2 _)) (hfit2 _ (by rw [hfs2,hfs2])) ?_
    intro w3 hm3 _
    obtain ⟨c',map',e,_⟩:=declare_shelf2 sb2 mb2 h02 c2 hr2 a.q hq
    rw [e]
    refine ⟨hfix w2 w3 y5 y4 hm3, ?_⟩
    simp only []
    exact fin w2 w3 _ _ _ hm2 hF2 hm3 hsim (by simp only [ZB,ne_eq,Nat.reduceEqDiff]) (by simp only [ZB,ne_eq,Nat.reduceEqDiff]) (by simp only [ZB])
end Go.Oct
namespace Go.Oct
open Go Go.Vc Go.VrA Go.VrF
set_option maxRecDepth 100000
set_option maxHeartbeats 2000000
theorem fails21_c (L : List Ag) (x : Ag) (k : Nat) (vl : Value) (m : Int) (w : World) (K : Value→World→Prop) (hg : Gl m w) (hv : IsAgs w vl L) (hLl : L.length≤9223372036854775807)
    (hLr : ∀ a ∈ L,(a.q.most < 2 ^ 32∧a.q.ttl < 2 ^ 64∧a.q.tries < 2 ^ 32)∧a.b.inI) (hLs : ∀ a ∈ L,a.szs maxLen)
    (hxr : (x.q.most < 2 ^ 32∧x.q.ttl < 2 ^ 64∧x.q.tries < 2 ^ 32)∧x.b.inI) (hxs : x.szs maxLen) (hk : k < 256)
    (h : ∀ w',Mod (fun _=>False) w w'→K (.bool true) w') :
    Ok Proofs.Tryz.prog 5 #[vl,x.val,.int .u8 k] w K:=by
  obtain ⟨⟨a,cp,rfl⟩,hat⟩:=id hv
  have hz0 : 0 < w.heap.size:=hg.lt
  refine F5.enter (args:=[.slice a L.length cp,x.val,.int .u8 k]) (by simp) ?_
  rw [c5_s]
  unfold r5
  simp only [ZB,subC,c5,insVc,Value.cells,Zab,Zae,Za,Zaf,Zaa,Zap,Int.reduceNeg,Ag.val,Ag.cells,Qu.cells,Bi.cells]
  obtain ⟨w1,hw1⟩ : ∃ w1,w1 = w.alloc (.cells #[.int .i64 x.act,.string x.q.name,.int .u32 x.q.most,.int .u64 x.q.ttl,.int .u32 x.q.tries,.string x.q.dead,.string x.b.ex,.int .i64 x.b.kind,.string x.b.key,.string x.b.q] 66):=⟨_,rfl⟩
  rw [← hw1]
  have hm1 : Mod (fun _=>False) w w1:=by rw [hw1]; exact (Mod.refl _ _).alloc _
  have hx1 : w1.heap[w.heap.size]? = some (.cells #[.int .i64 x.act,.string x.q.name,.int .u32 x.q.most,.int .u64 x.q.ttl,.int .u32 x.q.tries,.string x.q.dead,.string x.b.ex,.int .i64 x.b.kind,.string x.b.key,.string x.b.q] 66 (0,0)):=by rw [hw1]; exact get_alloc_new _ _
  clear hw1
  refine awake_c m w1 _ (hg.mod hm1 id) ?_
  intro w2 hm2
  have hm02:=hm1.trans hm2
  simp only [ZB,insVc,notK,ne_eq,reduceCtorEq,Zab,Zad,Zae,Za]
  refine light21_c L 20 _ w2 _ (hv.keep hm02) hLl hLs ?_
  intro w3 r hm3 hok
  have hm03:=hm02.trans hm3
  have hx3:=hm3.keep (hm2.keep hx1 id) id
  cases r with
  | false =>
    simp only [ZB,endK,resK,packed,insVc,pickK,notK,ne_eq,Nat.reduceEqDiff,Zaa,Zac]
    exact h _ hm03
  | true =>
  have hokL:=hok rfl
  have hL20 : L.length≤20:=by
    by_cases e : L = []
    · rw [e]; simp
    · obtain ⟨y,hy⟩:=List.exists_mem_of_ne_nil L e
      exact (hokL y hy).1
  simp only [ZB,insVc,loadNK,notK,fillL,buildSK,Value.cells,ne_eq,Nat.reduceEqDiff,Nat.reduceAdd,Nat.reduceLeDiff,Zad,Zae,Zak,Zai,Zaj,Zbc,Zbd,Zba,Zbb,Zal,Zam,Zan,Zbf,Zac,Zb,Zaz,Zav,Zar,Zay,Zaw,hx3]
  obtain ⟨w4,hw4⟩ : ∃ w4,w4 = w3.alloc (.cells #[.int .i64 x.act,.string x.q.name,.int .u32 x.q.most,.int .u64 x.q.ttl,.int .u32 x.q.tries,.string x.q.dead,.string x.b.ex,.int .i64 x.b.kind,.string x.b.key,.string x.b.q] 66):=⟨_,rfl⟩
  rw [← hw4]
  have hm4 : Mod (fun _=>False) w3 w4:=by rw [hw4]; exact (Mod.refl _ _).alloc _
  have hg4 : w4.heap[w3.heap.size]? = some (.cells #[.int .i64 x.act,.string x.q.name,.int .u32 x.q.most,.int .u64 x.q.ttl,.int .u32 x.q.tries,.string x.q.dead,.string x.b.ex,.int .i64 x.b.kind,.string x.b.key,.string x.b.q] 66 (0,0)):=by rw [hw4]; exact get_alloc_new _ _
  have hv4 : IsAgs w4 (.slice (some ⟨w3.heap.size,0,none⟩) [x].length 1) [x]:=by
    refine ⟨⟨_,_,rfl⟩,fun i v hv => ?_⟩
    match i,hv with
    | 0,hv =>
      have e : x = v:=by simpa using hv
      subst e
      exact ⟨_,_,_,_,_,_,rfl,hg4,by simp,rfl⟩
  clear hw4
  have hm04:=hm03.trans hm4
  refine light21_c [x] 1 _ w4 _ hv4 (by simp) (fun y hy=>by rw [List.mem_singleton] at hy; rw [hy]; exact hxs) ?_
  intro w5 r hm5 hok2
  have hm05:=hm04.trans hm5
  have hx5:=hm5.keep (hm4.keep hx3 id) id
  cases r with
  | false =>
    simp only [ZB,endK,resK,packed,insVc,pickK,notK,ne_eq,Nat.reduceEqDiff,Zaa,Zag]
    exact h _ hm05
  | true =>
  have hxr' : x.right:=⟨((hok2 rfl) x (by simp)).2,hxr.1,hxr.2⟩
  simp only [ZB,insVc,pickK,notK,ne_eq,Nat.reduceEqDiff,Zad,Zae,Zag]
  refine new_c [] _ w5 _ (.inl ⟨rfl,_,rfl⟩) (by simp) (fun _ h=>by cases h) ?_
  intro w6 sb mb hm6 hsb hmb hs6
  have hz5:=hm05.size
  have h0 : 0≠mb:=by omega
  have hm06:=hm05.trans hm6
  have hlt6:=shelf_gt (h0:=h0) (s:=(0,[])) hs6
  simp only [ZB,insVc,Zad,Zae]
  refine new_c [] _ w6 _ (.inl ⟨rfl,_,rfl⟩) (by simp) (fun _ h=>by cases h) ?_
  intro w7 sb2 mb2 hm7 hsb2 hmb2 hs7
  have hz6:=hm06.size
  have h02 : 0≠mb2:=by omega
  have hm07:=hm06.trans hm7
  have hlt7:=shelf_gt (h0:=h02) (s:=(0,[])) hs7
  have hz7:=hm7.size
  simp only [ZB,insVc,buildK,fillL,Value.cells,ne_eq,Nat.reduceEqDiff]
  refine vc_gen2 ?_
  intro w8 hw8
  have hm8 : Mod (fun _=>False) w7 w8:=by rw [hw8]; exact (Mod.refl _ _).alloc _
  have hb8 : BookAt w8 w7.heap.size bk0:=by
    rw [hw8]
    exact ⟨_,_,_,get_alloc_new _ _,World.ownsRow_nil _ _ _ 5,World.ownsRow_nil _ _ _ 4,World.ownsRow_nil _ _ _ 2⟩
  clear hw8
  have hm08:=hm07.trans hm8
  have hz8:=hm8.size
  have hx8:=hm8.keep (hm7.keep (hm6.keep hx5 id) id) id
  refine fails_acts sb mb sb2 mb2 w7.heap.size h0 h02 L a cp m w w8 _ _ ((shelf sb mb h0).keep0 ((shelf sb mb h0).keep0 hs6 hm7) hm8) ((shelf sb2 mb2 h02).keep0 hs7 hm8) hb8 (by omega) (by omega) (by omega) (by omega) (by omega) (by omega) (by omega) (hg.mod hm08 id) (by omega) (by omega) hm08 (by omega) (by omega) (by omega) hat hL20 (fun y hy=>⟨(hokL y hy).2,(hLr y hy).1,(hLr y hy).2⟩) (by simp only [ZB,ne_eq,reduceCtorEq,Zab,Za]) (by simp only [ZB,ne_eq,Nat.reduceEqDiff]) (by simp only [ZB,ne_eq,Nat.reduceEqDiff]) (by simp only [ZB]) ?_
  intro w9 ρ9 c map c2 map2 B hm9 hA9 hA9' hr hr2 hc hc2 hml hml2 hB s2 s4 s7 s8
  have hm09 : Mod (fun _=>False) w w9:=hm08.then hm9 (fun k hk e=>by rcases e with e | e | e <;> omega)
  have hx9:=hm9.keep hx8 (fun e=>by have:=lt_of_get hx5; have:=lt_of_get hx1; have:=hm5.size; have:=hm4.size; have:=hm3.size; have:=hm2.size; have:=hm1.size; rcases e with e | e | e <;> omega)
  simp only [ZB,ne_eq,Nat.reduceEqDiff,Zab,Za,Zaf] at s2 s4
  simp only [ZB]
  rw [c5n_s]
  have hn12 : IntKind.i64.wrap (((k : Nat) : Int).tmod 12) = ((k % 12 : Nat) : Int):=by
    rw [Int.tmod_eq_emod_of_nonneg (by omega),wrap_i64 _ (by omega)]; omega
  obtain ⟨w10,hw10⟩ : ∃ w10,w10 = Vc.set ((Vc.set (w9.alloc (.cells #[.int .i64 0] 3)) w9.heap.size (.cells #[.int .i64 ((k % 12 : Nat) : Int)] 3)).alloc (.cells #[.pointer none,.pointer none] 77)) (w9.heap.size + 1) (.cells #[ptr sb,ptr w9.heap.size] 77):=⟨_,rfl⟩
  simp only [ZB,subC,c5,insVc,storeK,storeNK,setMany,iopK,iopV,convK,buildK,fillL,isPlain,Value.cells,ne_eq,Nat.reduceEqDiff,Nat.reduceAdd,Nat.reduceLT,Nat.reduceLeDiff,reduceCtorEq,Zak,Zai,Zaj,Zbc,Zbd,Zba,Zbb,Zal,Zam,Zan,Zbf,Zac,Zag,Int.reduceNeg,Int.reduceEq,Zas,Zat,Zau,Zao,get_alloc,get_set,Nat.reduceAdd,Zbj,Nat.reduceEqDiff,Nat.reduceLT,Zbi,s2,s7,hn12]
  rw [← hw10]
  have hm10 : Mod (fun _=>False) w9 w10:=by rw [hw10]; exact ((((Mod.refl _ _).alloc _).set (.inl (Nat.le_refl _))).alloc _).set (.inl (by omega))
  have hc10 : w10.heap[w9.heap.size]? = some (.cells #[.int .i64 ((k % 12 : Nat) : Int)] 3 (0,0)):=by rw [hw10]; simp only [Nat.reduceAdd,and_true,Zag,size_set,size_alloc,Zbe,Zao,get_alloc,get_set,size_alloc,size_set,Zaq,Nat.reduceAdd,Zbl,Zbi]
  have hf10 : w10.heap[w9.heap.size + 1]? = some (.cells #[ptr sb,ptr w9.heap.size] 77 (0,0)):=by rw [hw10]; simp only [Nat.reduceAdd,size_set,size_alloc,Zbe,Zao,size_alloc,size_set,Zaq,Nat.reduceAdd]
  have hz10 : w10.heap.size = w9.heap.size + 2:=by rw [hw10]; simp only [Nat.reduceAdd,size_set,size_alloc,size_alloc,size_set,Zaq,Nat.reduceAdd]
  clear hw10
  have hz9:=hm9.size
  have hn0 : 0≠w9.heap.size:=by omega
  have hm010:=hm09.trans hm10
  have lx:=lt_of_get hx1
  have z2:=hm2.size
  have z3:=hm3.size
  have z4:=hm4.size
  have z5:=hm5.size
  refine fails_switch sb mb w9.heap.size sb2 mb2 w.heap.size (w9.heap.size + 1) h0 hn0 (by omega) (by omega) h02 (by omega) (by omega) (by omega) (by omega) (by omega) (by omega) x hxr' (by omega) (by omega) c c2 map map2 B ((k % 12 : Nat) : Int) m w10 _ _ ⟨(shelf sb mb h0).keep0 hA9 hm10,hc10⟩ ((shelf sb2 mb2 h02).keep0 hA9' hm10) (hg.mod hm010 id) (by omega) hr hr2 hB hml hml2 hc hc2 (by omega) (by omega) (hm10.keep hx9 id) hf10 (by simp only [ZB,ne_eq,Nat.reduceEqDiff,s4]) (by simp only [ZB,ne_eq,Nat.reduceEqDiff,s8]) (by simp only [ZB,ne_eq,Nat.reduceEqDiff]) ?_
  intro w11 ρ11 r e hm11 hF hsim s12 s14 s15
  have hm011 : Mod (fun _=>False) w w11:=hm010.then hm11 (fun k hk e=>by rcases e with e | e | e <;> omega)
  simp only [ZB,ne_eq,Nat.reduceEqDiff] at s12
  simp only [ZB]
  unfold c5z
  simp only [ZB,subC,c5,insVc,load1K,iopK,iopV,reduceCtorEq,Za,Zah,Int.reduceNeg,s12,hF.2]
  by_cases hneg : r.2.2 < 0
  · rcases hsim.1 hneg with e1 | e1
    all_goals
      simp only [ZB,endK,resK,packed,insVc,pickK,iopK,iopV,ne_eq,Nat.reduceEqDiff,reduceCtorEq,Zaa,Zac,Zag,Int.reduceBEq,hneg,s14,e1]
      exact h _ hm011
  · have e1:=hsim.2 (by omega)
    simp only [ZB,endK,resK,packed,insVc,iopK,iopV,ne_eq,Nat.reduceEqDiff,reduceCtorEq,Zaa,hneg,s14,s15,e1,beq_self_eq_true]
    exact h _ hm011
end Go.Oct
namespace Go.Oct
open Go Go.Vc Go.ChangeShapes
set_option maxRecDepth 100000
section
variable {H : Type} {enc : TypeId × Value→H} {W : World} {base : Nat} {spare : Nat→Bool} {held : Bool}
theorem trod_ag (n : Nat) (cs : List Value) (y : DataW H × List MemPlace) (h : DataW.trod enc Proofs.Tryz.prog W base spare held n 66 cs = some y) :
    ∃ a : Ag,cs = a.cells∧((a.q.most < 2 ^ 32∧a.q.ttl < 2 ^ 64∧a.q.tries < 2 ^ 32)∧a.b.inI)∧a.szs maxLen:=by
  have hu : Proofs.Tryz.prog.underlying 66 = some (.struct (Proofs.Tryz.prog.fieldsOf 66)):=by kernel_rfl
  obtain ⟨hl,hf⟩:=trod_fields hu [(3,0),(33,1),(64,6)] (by kernel_rfl) h
  have c10 : Proofs.Tryz.prog.cellsOf 66 = 10:=by kernel_rfl
  have c5 : Proofs.Tryz.prog.cellsOf 33 = 5:=by kernel_rfl
  have c4 : Proofs.Tryz.prog.cellsOf 64 = 4:=by kernel_rfl
  have ci : Proofs.Tryz.prog.cellsOf 3 = 1:=by kernel_rfl
  have ui : Proofs.Tryz.prog.underlying 3 = some (.int .i64):=by kernel_rfl
  rw [c10] at hl
  match cs,hl with
  | [x0,x1,x2,x3,x4,x5,x6,x7,x8,x9],_ =>
    obtain ⟨_,_,h0⟩:=hf (3,0) (by simp)
    obtain ⟨_,_,h1⟩:=hf (33,1) (by simp)
    obtain ⟨_,_,h2⟩:=hf (64,6) (by simp)
    simp only [c5,c4,ci,Zav,Zbt,Zay,Zar] at h0 h1 h2
    obtain ⟨n0,e0,_,_⟩:=DataW.trod_int ui h0
    obtain ⟨q1,e1,k1,k2,k3,k4,k5⟩:=trod_qu _ _ _ h1
    obtain ⟨b1,e2,j1,j2,j3,j4⟩:=trod_bd _ _ _ h2
    simp only [List.cons.injEq,and_true] at e0
    subst e0
    refine ⟨⟨n0,q1,⟨b1.ex,b1.kind,b1.key,b1.queue⟩⟩, ?_,⟨⟨k1,k2,k3⟩,j1⟩,k4,k5,j2,j3,j4⟩
    show _ = Value.int .i64 n0 :: (q1.cells ++ b1.cells)
    rw [← e1,← e2]; rfl
end
end Go.Oct
