import Derived.Test.YtbkddpckkgbbmaaGreatDoorVgK
set_option linter.unusedSimpArgs false
set_option linter.unusedVariables false
set_option linter.unusedSectionVars false
set_option linter.unnecessarySimpa false
namespace Go.Oct
open Go Go.Vc Go.VrA Go.VrB Go.VrC Go.VrE
set_option maxRecDepth 100000

/-! ### law 22's do -/

/-! what the shelf's calls ask -/
theorem Rl.vals {B : List Ms} {m : M} (h : Rl B m) : ∀ p ∈ m, p.2.length < 2 ^ 60 := by
  intro p hp
  rcases (h.mem p).1 hp with ⟨y, hy, rfl⟩ | ⟨y, hy, _, rfl⟩
  · have e : (mbytes y).data.toList.length = (mbytes y).size := by rw [Array.length_toList]; rfl
    have := mbytes_size2 y (h.fit y hy)
    show (mbytes y).data.toList.length < 2 ^ 60
    omega
  · exact (by decide : ([] : List UInt8).length < 2 ^ 60)
/-! a queue emptied -/
end Go.Oct

namespace Go.Oct
open Go Go.Vc Go.VrA Go.VrB Go.VrC Go.VrE
set_option maxRecDepth 100000

/-! ### law 22's do: the walk -/

end Go.Oct

namespace Go.Oct
open Go Go.Vc Go.VrA Go.VrB Go.VrC Go.VrE
set_option maxRecDepth 100000

/-! ### law 22: MessagePlays, what is looked at behind each call -/

/-- a function's end behind any number of ranges. -/
theorem endK_marks {P : Program} {res : List RV} {K : Value → World → Prop} {ρ : Env} : ∀ (Ds : List Nat) (w : World), (∀ D ∈ Ds, w.heap[D]? = some (.deferred (some []))) → Ds.Nodup →
    (∀ w', Mod (fun k => k ∈ Ds) w w' → resK K ρ w' res []) → endK P res K ρ (Ds.map markD) w := by
  intro Ds
  induction Ds with
  | nil => intro w _ _ h; exact h w (Mod.refl _ _)
  | cons D Ds ih =>
    intro w hd hn h
    have hn' := List.nodup_cons.1 hn
    have h0 := hd D (by simp)
    rw [List.map_cons]
    unfold endK
    simp only [h0, markO]
    have hm : Mod (fun k => k = D) w (Vc.set w D (.deferred none)) := (Mod.refl _ _).set (.inr rfl)
    refine ih _ (fun E hE => hm.keep (hd E (by simp [hE])) (fun e => hn'.1 (e ▸ hE))) hn'.2 ?_
    intro w' hm'
    exact h w' ((hm.mono fun k _ e => by simp [e]).trans (hm'.mono fun k _ e => by simp [e]))

end Go.Oct

namespace Go.Oct
open Go Go.Vc Go.VrA Go.VrF
set_option maxRecDepth 100000

/-! ### is all that is kept the same? -/

noncomputable def c33a : CC := subC c33 [1, 1, 0]
noncomputable def c33e : CC := subC c33 [1, 1, 1, 0]
noncomputable def c33l : CC := subC c33 [1, 1, 1, 1, 1, 0]
noncomputable def c33z : CC := subC c33 [1, 1, 1, 1, 1, 1]
theorem c33_s : c33 = .seq (subC c33 [0]) (.seq (subC c33 [1, 0]) (.seq c33a (.seq c33e (.seq (subC c33 [1, 1, 1, 1, 0]) (.seq c33l c33z))))) := rfl
def nmL (l : List Qu) : List (List UInt8) := l.map fun q => q.name.data.toList
theorem nmL_snoc (l : List Qu) (q : Qu) : nmL (l ++ [q]) = nmL l ++ [q.name.data.toList] := by unfold nmL; rw [List.map_append]; rfl

theorem same_a (sb mb bk p3 p5 : Nat) (h0 : 0 ≠ mb) (c : Nat) (map : M) (B : Bk) (m : Int) (w0 w : World) (Q : QT) (ρ : Env) (hAt : (shelf sb mb h0).At (c, map) w0) (hb : BookAt w0 bk B) (hg : Gl m w0) (hm0 : Mod (fun _ => False) w0 w)
    (hr : Rg B map) (hB : B.small (2 ^ 16)) (hml : map.length * 16 ≤ 140737488355328) (hp3 : w.heap[p3]? = some (.cells #[ptr bk] 68 (0, 0))) (hp5 : w.heap[p5]? = some (.cells #[.slice none 0 0] 80 (0, 0))) (h35 : p3 ≠ p5) (hw5 : w0.heap.size ≤ p5)
    (r0 : ρ 0 = .iface 26 (ptr sb)) (r3 : ρ 3 = ptr p3) (r5 : ρ 5 = ptr p5)
    (h : ∀ w' ρ' v E, Mod (fun k => k = p5) w w' → w'.heap[p5]? = some (.cells #[v] 80 (0, 0)) → w'.ownsRow w.heap.size 9 1 v B.names.length (stV B.names) → w'.heap[E]? = some (.deferred (some [])) → w.heap.size ≤ E → ρ' 0 = ρ 0 → ρ' 3 = ρ 3 → ρ' 4 = ρ 4 → ρ' 5 = ρ 5 → Q .normal ρ' [markD E] w') :
    vc Proofs.Tryz.prog none 90 c33a Q ρ [] w := by
  obtain ⟨z1, z2, z3⟩ := hB
  obtain ⟨D, d0, d1, d2, d3, d4⟩ := queues_shelf sb mb h0 c hr
  have hnm : nmL D = B.names := names_row d2 d4
  have hD : D.length < 2 ^ 17 := by
    have := ((List.perm_ext_iff_of_nodup d3 (hr.qd.imp (fun h e => h (congrArg Qu.name e)))).2 d2).length_eq
    omega
  have hA := (shelf sb mb h0).keep0 hAt hm0
  have hg1 := hg.mod hm0 id
  have hz0 := hm0.size
  unfold c33a
  simp only [ZB, subC, c33, insVc, Zad, Zae, r0]
  refine allQueues_c (shelf sb mb h0) (c, map) (pure_shelf sb mb h0 _ hml) m w _ ?_ ?_
  · rw [d0]
    intro r hx
    obtain ⟨p, hp, rfl⟩ := List.mem_map.1 hx
    obtain ⟨q, hq, rfl⟩ := List.mem_map.1 hp
    exact hr.valsN (qP q) ((hr.mem _).2 (.inl ⟨q, (d2 q).1 hq, rfl⟩))
  intro w2 gf cap hm2 it
  rw [d1] at it
  have hlenD : (quV (D.map fun y => (y, (0 : Int)))).length = D.length := by simp [quV]
  have p32 := hm2.keep hp3 id
  have p52 := hm2.keep hp5 id
  have hm02 := hm0.trans hm2
  have hz2 := hm2.size
  have lp5 := lt_of_get hp5
  have lp3 := lt_of_get hp3
  have hnf : ∀ k, w0.heap.size ≤ k → ¬ (shelf sb mb h0).foot k := fun k hk x => by have := (shelf sb mb h0).footLt (c, map) w0 _ hAt x; omega
  have back : ∀ u, Mod (fun k => k = p5) w2 u → Mod (fun _ => False) w0 u := fun u hu => hm02.then hu (fun k hk e => by omega)
  simp only [ZB]
  refine range_iter (by kernel_rfl) (by kernel_rfl) (by kernel_rfl) (gf := gf) (cap := cap) (by simp only [ZB]) it
    (fun i X u => Mod (fun k => k = p5) w2 u ∧ ∃ v, u.heap[p5]? = some (.cells #[v] 80 (0, 0)) ∧ u.ownsRow w2.heap.size 9 1 v (nmL (D.take i)).length (stV (nmL (D.take i))) ∧ (∀ k, v.ownBlock = some k → ¬ X k))
    (fun _ _ _ => False) ?_ ?_ ?_ ?_ ?_ ?_ ?_ ?_
  · intro X u hm _ _
    exact ⟨hm.mono fun _ _ x => x.elim, .slice none 0 0, hm.keep p52 id, World.ownsRow_nil _ _ _ 1, (fun k hk => by cases hk)⟩
  · rintro i X u ⟨k1, _⟩
    refine ⟨(shelf sb mb h0).keep0 hAt (back u k1), hg.mod (back u k1) id, k1.size, fun k hk1 hk2 => k1.get k hk2 (by omega)⟩
  · rintro i X X' a b ⟨k1, v, k2, k3, k4⟩ hX ha hm hxx
    have hge : ∀ k, X k → w2.heap.size ≤ k := fun k hk => hX k hk
    refine ⟨k1.then hm (fun k hk x => by have := hge k x; omega), v, hm.keep k2 (fun x => by have := hge _ x; omega), own_mod k3 hm k4, ?_⟩
    intro k hk hx'
    rcases hxx k hx' with hx' | hx'
    · exact k4 k hk hx'
    · have := (World.ownsRow.lt k3 k hk).2; omega
  · rintro c' X X' a b k1; exact k1.elim
  · intro i hi
    rw [List.getElem?_eq_getElem hi]
    simp [quV]
  · intro i hi X a ⟨k1, v, k2, k3, k4⟩ hX ha
    have hiD : i < D.length := by omega
    obtain ⟨q, hq⟩ : ∃ q, D[i]? = some q := ⟨D[i], List.getElem?_eq_getElem hiD⟩
    have hrow : ((quV (D.map fun y => (y, (0 : Int))))[i]?.getD []) = [q.val, .int .i64 0] := by simp [quV, hq]
    have hqB := (d2 q).1 (List.mem_of_getElem? hq)
    have hfq : 0 ≤ bfind q.name B.qs 0 := (bfind_iff _ _ _).2 ⟨q, hqB, rfl⟩
    obtain ⟨j, q', hj, hjq, hjn⟩ := bfind_get q.name B.qs 0 hfq
    obtain rfl : q' = q := name_uniq hr.qd (List.mem_of_getElem? hjq) hqB hjn
    rw [Nat.zero_add] at hj
    have hjl : j < B.qs.length := (List.getElem?_eq_some_iff.1 hjq).1
    have htk : D.take (i + 1) = D.take i ++ [q'] := by rw [List.take_add_one, hq]; rfl
    clear k1 k2 k3 k4
    rw [hrow]
    simp only [ZB, insVc, load1K, storeNK, setMany, isPlain, Value.cells, ne_eq, Nat.reduceEqDiff, Nat.reduceAdd, Nat.reduceLeDiff, Zak, Zai, Zaj, Zal, Zam, Zan, Zas, Zaq, Zar, Zbi, updMany, Qu.val, Qu.cells]
    refine ⟨((Mod.refl _ _).alloc _).set (.inl (Nat.le_refl _)), ?_⟩
    rintro z hmz ⟨k1, v, k2, k3, k4⟩
    have hxa : ¬ X a.heap.size := fun x => by have := (hX _ x).2; omega
    have pz := hmz.keep (get_set_same _ _ (.cells #[.string q'.name, .int .u32 q'.most, .int .u64 q'.ttl, .int .u32 q'.tries, .string q'.dead] 33 (0, 0)) (by rw [size_alloc]; omega)) hxa
    have hge : ∀ k, X k → w2.heap.size ≤ k ∧ k < z.heap.size := fun k hk => by have := hX k hk; have := hmz.size; simp only [size_set, size_alloc] at this; omega
    have hza : a.heap.size < z.heap.size := lt_of_get pz
    have p3z := k1.keep p32 h35
    have hbz := hb.keep (back z k1)
    simp only [ZB, insVc, load1K, faddrK, ne_eq, Nat.reduceEqDiff, Zad, Zae, Za, Zah, r3, p3z, pz]
    refine bfind_c bk B q'.name z _ hbz (by omega) ?_
    intro z1 hz1
    have hbz1 := hbz.keep hz1
    have pz1 := hz1.keep pz id
    have p3z1 := hz1.keep p3z id
    obtain ⟨vq, vb, vx, b1, b2, b3, b4⟩ := id hbz1
    obtain ⟨aq, cq, rfl, _, _⟩ := map_add0 b2
    obtain ⟨bb, oo, cc, cur, t, f, he, hbh, hsz, hex⟩ := (isT_own (s := 5) (cells := Qu.cells) (fun _ => rfl) (by decide) b2).2 j q' hjq
    have ha' : aq = some ⟨bb, oo, none⟩ := by simpa using congrArg (fun x => match x with | .slice a _ _ => a | _ => none) he
    subst ha'
    rw [Nat.add_assoc] at hsz hex
    have n1 : ¬ ((j : Nat) : Int) < 0 := by omega
    have n2 : (0 : Int) ≤ (j : Int) ∧ (j : Int) < ((B.qs.length : Nat) : Int) := by omega
    simp only [ZB, insVc, hj]
    refine draw_d (Mod (fun _ => False) z1) (by kernel_rfl) (by kernel_rfl) (by kernel_rfl) (by kernel_rfl) (Mod.refl _ _).drew ?_
    simp only [ZB, insVc, pickK, nilK, nilM, iopK, iopV, faddrK, iaddrK, ne_eq, Nat.reduceEqDiff, reduceCtorEq, Zac, Zaf, Int.reduceBNe, pureI, vcD_nil, vcD_cons, vcD_gate, gateD_true, stepD_pure, stepD_load, stepD_step, kindI, loadI, n1]
    refine loadD1 (b := p3) (o := 0) (v := ptr bk) (by simp only [ZB, ne_eq, Nat.reduceEqDiff, r3]) (fun W hW => ⟨_, _, _, hW.keep p3z1 id, rfl⟩) ?_
    simp only []
    refine loadD1 (b := bk) (o := 0) (v := .slice (some ⟨bb, oo, none⟩) B.qs.length cq) rfl (fun W hW => ⟨_, _, _, hW.keep b1 id, rfl⟩) ?_
    simp only [true_and, and_self, Zau, n2]
    refine loadDN (b := bb) (o := oo + j * 5) (v := .agg q'.cells.toArray) rfl (fun W hW => ⟨_, _, _, hW.keep hbh id, by omega, by rw [Nat.add_assoc, hex]⟩) ?_
    refine loadDN (b := a.heap.size) (o := 0) (v := .agg q'.cells.toArray) rfl (fun W hW => ⟨_, _, _, hW.keep pz1 id, Nat.le_refl _, rfl⟩) ?_
    refine rawK_neq_qu q' q' rfl rfl rfl rfl rfl ⟨(Mod.refl _ _).drew, ?_⟩
    have k2' := hz1.keep k2 id
    have hzs1 := hz1.size
    have hzd : Mod (fun _ => False) z1 z1.drew := (Mod.refl _ _).drew
    have hnl : (nmL (D.take i)).length ≤ i := by unfold nmL; rw [List.length_map, List.length_take]; omega
    obtain ⟨v5, z5, hr5, ho5, hm5, hb5⟩ := append_st w2.heap.size v (nmL (D.take i)).length _ q'.name z1.drew (own_mod (own_mod k3 hz1 (fun _ _ => id)) hzd (fun _ _ => id)) (by have := k1.size; show w2.heap.size ≤ z1.heap.size; omega) (by omega) 80
    have hob : ∀ k, v.ownBlock = some k → w2.heap.size ≤ k ∧ k < z.heap.size := fun k hk => World.ownsRow.lt k3 k hk
    have pz1' := hzd.keep pz1 id
    have k2'' := hzd.keep k2' id
    simp only [ZB, insVc, load1K, faddrK, fillL, buildSK, Value.cells, ne_eq, Nat.reduceEqDiff, Nat.reduceLeDiff, Za, Zah, Zak, Zai, Zaj, Zbd, Zbe, Zbb, Zbc, Zal, Zam, Zbf, Zac, eqQu_self, r5, k2'', pz1']
    refine rawK_append rfl rfl rfl (by simp only [ZB, ne_eq, Nat.reduceEqDiff]; exact hr5) ?_
    have hm15 : Mod (fun k => v.ownBlock = some k) z z5 := ((hz1.trans hzd).mono fun _ _ x => x.elim).trans hm5
    have k25 := hm15.keep k2 (fun x => by have := hob _ x; omega)
    have hst : Mod (fun k => k = p5) z5 (Vc.set z5 p5 (.cells #[v5] 80 (0, 0))) := (Mod.refl _ _).set (.inr rfl)
    have hms := hm15.size
    simp only [ZB, insVc, storeK, isPlain, ne_eq, Nat.reduceEqDiff, Nat.reduceLT, Nat.reduceLeDiff, reduceCtorEq, Zak, Zai, Zaj, Zal, Zam, Zao, r5, k25]
    refine ⟨own_plain ho5, ⟨hms, ?_⟩, .inl ⟨?_, v5, get_set_same _ _ _ (lt_of_get k25), ?_, ?_⟩⟩
    · intro k hk
      rw [hst.get k (by have := hge k hk; omega) (by have := hge k hk; omega)]
      exact hm15.get k (hge k hk).2 (fun x => k4 k x hk)
    · refine (k1.then hm15 (fun k hk x => by have := hob k x; omega)).trans hst
    · rw [htk, nmL_snoc]
      have e1 : stV (nmL (D.take i) ++ [q'.name.data.toList]) = stV (nmL (D.take i)) ++ [.string q'.name] := by
        have hk' : (⟨q'.name.data.toList.toArray⟩ : ByteArray) = q'.name := by cases q'.name; simp
        simp [stV, hk']
      rw [e1, List.length_append]
      refine own_mod ho5 hst (fun k hk x => ?_)
      rcases hb5 k hk with y | y
      · have := hob k y; omega
      · have : z1.drew.heap.size = z1.heap.size := rfl
        omega
    · intro k hk hxk
      rcases hb5 k hk with y | y
      · exact k4 k y hxk
      · have := hge k hxk
        have : z1.drew.heap.size = z1.heap.size := rfl
        omega
  · rintro X u ⟨k1, v, k2, k3, k4⟩ ⟨e1, e2, e3⟩
    rw [hlenD, List.take_length, hnm] at k3
    simp only [ZB]
    exact h u _ v w2.heap.size ((hm2.mono fun _ _ x => x.elim).trans k1) k2 (own_lo k3 hz2) e1 hz2 (by simp only [ZB, ne_eq, reduceCtorEq]) (by simp only [ZB, ne_eq, Nat.reduceEqDiff]) (by simp only [ZB, ne_eq, Nat.reduceEqDiff]) (by simp only [ZB, ne_eq, Nat.reduceEqDiff])
  · rintro c' X u k1; exact k1.elim
end Go.Oct

namespace Go.Oct
open Go Go.Vc Go.VrA Go.VrF
set_option maxRecDepth 100000

def cntB (x : Bi) (l : List Bi) : Nat := (l.filter fun y => eqBi x y).length
theorem cntB_snoc (x : Bi) (l : List Bi) (y : Bi) : cntB x (l ++ [y]) = cntB x l + (if eqBi x y = true then 1 else 0) := by
  unfold cntB
  rw [List.filter_append, List.length_append]
  congr 1
  cases h : eqBi x y <;> simp [h]
theorem cntB_le (x : Bi) (l : List Bi) : cntB x l ≤ l.length := List.length_filter_le _ _
theorem cntB_one {x : Bi} : ∀ {l : List Bi}, l.Nodup → x ∈ l → cntB x l = 1 := by
  intro l
  induction l with
  | nil => intro _ h; cases h
  | cons y l ih =>
    intro hn hx
    have hn' := List.nodup_cons.1 hn
    unfold cntB
    rw [List.filter_cons]
    by_cases e : x = y
    · subst e
      rw [if_pos (by rw [eqBi_eq]; simp), List.length_cons]
      have : (l.filter fun z => eqBi x z) = [] := by
        rw [List.filter_eq_nil_iff]
        intro z hz hh
        rw [eqBi_eq] at hh
        rw [of_decide_eq_true hh] at hn'
        exact hn'.1 hz
      rw [this]; rfl
    · rw [if_neg (by rw [eqBi_eq]; simpa using e)]
      rcases List.mem_cons.1 hx with h | h
      · exact (e h).elim
      · exact ih hn'.2 h

theorem same_b (sb mb bk p3 p4 : Nat) (h0 : 0 ≠ mb) (c : Nat) (map : M) (B : Bk) (m : Int) (E0 : Nat) (w0 w : World) (Q : QT) (ρ0 : Env) (hAt : (shelf sb mb h0).At (c, map) w0) (hb : BookAt w0 bk B) (hg : Gl m w0) (hm0 : Mod (fun _ => False) w0 w)
    (hr : Rg B map) (hB : B.small (2 ^ 16)) (hml : map.length * 16 ≤ 140737488355328) (hp3 : w.heap[p3]? = some (.cells #[ptr bk] 68 (0, 0))) (hE0 : w.heap[E0]? = some (.deferred (some [])))
    (r0 : ρ0 0 = .iface 26 (ptr sb)) (r3 : ρ0 3 = ptr p3) (r4 : ρ0 4 = ptr p4) (r9 : ρ0 9 = .int .i64 0)
    (h : ∀ (w' : World) (ρ' : Env) (Ds : List Nat), Mod (fun _ => False) w w' → (∀ D ∈ Ds, w'.heap[D]? = some (.deferred (some []))) → Ds.Nodup → (∀ D ∈ Ds, w.heap.size ≤ D ∨ D = E0) → ρ' 3 = ptr p3 → ρ' 4 = ptr p4 → ρ' 9 = .int .i64 B.bs.length → Q .normal ρ' (Ds.map markD) w') :
    vc Proofs.Tryz.prog none 90 c33l Q ρ0 [markD E0] w := by
  obtain ⟨z1, z2, z3⟩ := hB
  have hbw := hb.keep hm0
  obtain ⟨vq, vb, vx, b1, b2, b3, b4⟩ := id hbw
  obtain ⟨ab, cb, rfl, _, _⟩ := map_add0 b3
  have hat := (isT_own (s := 4) (cells := Bi.cells) (fun _ => rfl) (by decide) b3).2
  have hnf : ∀ k, w0.heap.size ≤ k → ¬ (shelf sb mb h0).foot k := fun k hk x => by have := (shelf sb mb h0).footLt (c, map) w0 _ hAt x; omega
  have hz0 := hm0.size
  unfold c33l
  simp only [ZB, subC, c33, insVc, load1K, nilK, faddrK, lenLK, Za, Zag, Zah, r3, hp3, b1]
  refine vc_loop (fun mm ρ ds u => ∃ (i : Nat) (Ds : List Nat), i ≤ B.bs.length ∧ mm = B.bs.length - i ∧ ds = Ds.map markD ∧ ρ 0 = .iface 26 (ptr sb) ∧ ρ 3 = ptr p3 ∧ ρ 4 = ptr p4 ∧ ρ 9 = .int .i64 i ∧ ρ 53 = .slice ab B.bs.length cb ∧ ρ 54 = .int .i64 B.bs.length ∧ ρ 55 = .int .i64 i ∧
    Mod (fun _ => False) w u ∧ (∀ D ∈ Ds, u.heap[D]? = some (.deferred (some []))) ∧ Ds.Nodup ∧ (∀ D ∈ Ds, w.heap.size ≤ D ∨ D = E0)) (B.bs.length - 0) ?_ ?_
  · refine ⟨0, [E0], Nat.zero_le _, rfl, rfl, by simp only [ZB, ne_eq, reduceCtorEq, r0], by simp only [ZB, ne_eq, Nat.reduceEqDiff, r3], by simp only [ZB, ne_eq, Nat.reduceEqDiff, r4], by simp only [ZB, ne_eq, Nat.reduceEqDiff, r9]; rfl, by simp only [ZB, ne_eq, Nat.reduceEqDiff], by simp only [ZB, ne_eq, Nat.reduceEqDiff], by simp only [ZB] <;> rfl, Mod.refl _ _, ?_, by simp, ?_⟩
    · intro D hD; rw [List.mem_singleton.1 hD]; exact hE0
    · intro D hD; exact .inr (List.mem_singleton.1 hD)
  · rintro mm ρ ds u ⟨i, Ds, hi, rfl, rfl, g0, g3, g4, g9, g53, g54, g55, hmu, hDs, hnd, hDw⟩
    by_cases c1 : i < B.bs.length
    · have d1 : (i : Int) < ((B.bs.length : Nat) : Int) := by omega
      obtain ⟨x, hxi⟩ : ∃ x, B.bs[i]? = some x := ⟨B.bs[i], List.getElem?_eq_getElem c1⟩
      obtain ⟨b, o, cc, cur, t, f, he, hbh, hsz, hex⟩ := hat i x hxi
      have ha' : ab = some ⟨b, o, none⟩ := by simpa using congrArg (fun x => match x with | .slice a _ _ => a | _ => none) he
      subst ha'
      rw [Nat.add_assoc] at hsz hex
      have hbu := hmu.keep hbh id
      have hi0' : (0 : Int) ≤ (i : Int) ∧ (i : Int) < ((B.bs.length : Nat) : Int) := by omega
      have hw1 : IntKind.i64.wrap ((i : Int) + 1) = ((i + 1 : Nat) : Int) := by rw [wrap_i64 _ (by omega)]; omega
      have hxB := List.mem_of_getElem? hxi
      have hxr := hr.bn x hxB
      obtain ⟨D, e1, e2, e3⟩ := bindings_shelf sb mb h0 c hr x.ex
      have hDl : D.length < 2 ^ 17 := by
        have h1 := nodup_len e2 e3 (hr.bd.filter _)
        have h2 : (exL x.ex B.bs).length ≤ B.bs.length := List.length_filter_le _ _
        omega
      have hxD : x ∈ D := (e2 x).2 (mem_exL.2 ⟨hxB, rfl⟩)
      have hlenD : (biV (D.map fun y => (y, (0 : Int)))).length = D.length := by simp [biV]
      have hms := hmu.size
      obtain ⟨u1, hu1⟩ : ∃ u1, u1 = Vc.set ((Vc.set (u.alloc (.cells #[.string ⟨#[]⟩, .int .i64 0, .string ⟨#[]⟩, .string ⟨#[]⟩] 64)) u.heap.size (.cells #[.string x.ex, .int .i64 x.kind, .string x.key, .string x.q] 64)).alloc (.cells #[.int .i64 0] 3)) (u.heap.size + 1) (.cells #[.int .i64 0] 3) := ⟨_, rfl⟩
      have hmu1 : Mod (fun _ => False) u u1 := by rw [hu1]; exact ((((Mod.refl _ _).alloc _).set (.inl (Nat.le_refl _))).alloc _).set (.inl (by omega))
      have px1 : u1.heap[u.heap.size]? = some (.cells #[.string x.ex, .int .i64 x.kind, .string x.key, .string x.q] 64 (0, 0)) := by rw [hu1]; simp only [Nat.reduceAdd, and_true, Zaf, size_set, size_alloc, Zaz, Zao, get_alloc, get_set, size_alloc, size_set, Zat, Nat.reduceAdd, Zbl, Zbh]
      have pf1 : u1.heap[u.heap.size + 1]? = some (.cells #[.int .i64 0] 3 (0, 0)) := by rw [hu1]; simp only [Nat.reduceAdd, size_set, size_alloc, Zaz, Zao, size_alloc, size_set, Zat, Nat.reduceAdd]
      simp only [ZB, insVc, load1K, loadNK, storeK, storeNK, setMany, iopK, iopV, faddrK, iaddrK, isPlain, Value.cells, ne_eq, Nat.reduceEqDiff, Nat.reduceAdd, Nat.reduceLT, Nat.reduceLeDiff, reduceCtorEq, Zad, Zae, Za, Zah, Zak, Zai, Zaj, Zal, Zam, Zan, Zac, Zaf, Zau, Zas, Zaq, Zar, Zaz, Zao, get_alloc, get_set, Zat, Nat.reduceAdd, Zbj, Zbl, Nat.reduceEqDiff, Nat.reduceLT, Zbh, g0, g53, g54, g55, d1, hi0', hbu, hsz, hex, Bi.cells]
      rw [← hu1]
      have hm0u1 := (hm0.trans hmu).trans hmu1
      refine bindings_c (shelf sb mb h0) (c, map) (pure_shelf sb mb h0 _ hml) x.ex m u1 _ (by have := (bkey_sz hxr).1; omega) ?_
      intro u2 gf cap hm2 it
      rw [e1] at it
      have px2 := hm2.keep px1 id
      have pf2 := hm2.keep pf1 id
      have lpx1 := lt_of_get px1
      have lpf1 := lt_of_get pf1
      have hz2 := hm2.size
      have hz1 := hmu1.size
      have hm0u2 := hm0u1.trans hm2
      have back : ∀ z, Mod (fun k => k = u.heap.size + 1) u2 z → Mod (fun _ => False) u z := fun z hz => (hmu1.trans hm2).then hz (fun k hk e => by omega)
      simp only [ZB]
      refine range_iter (by kernel_rfl) (by kernel_rfl) (by kernel_rfl) (gf := gf) (cap := cap) (by simp only [ZB]) it
        (fun j X z => Mod (fun k => k = u.heap.size + 1) u2 z ∧ z.heap[u.heap.size + 1]? = some (.cells #[.int .i64 (cntB x (D.take j))] 3 (0, 0)))
        (fun _ _ _ => False) ?_ ?_ ?_ ?_ ?_ ?_ ?_ ?_
      · intro X z hm _ _
        exact ⟨hm.mono fun _ _ x => x.elim, hm.keep pf2 id⟩
      · rintro j X z ⟨k1, _⟩
        have hb0 : Mod (fun _ => False) w0 z := (hm0.trans hmu).trans (back z k1)
        refine ⟨(shelf sb mb h0).keep0 hAt hb0, hg.mod hb0 id, k1.size, fun k hk1 hk2 => k1.get k hk2 (by omega)⟩
      · rintro j X X' a b ⟨k1, k2⟩ hX ha hm hxx
        have hge : ∀ k, X k → u2.heap.size ≤ k := fun k hk => hX k hk
        exact ⟨k1.then hm (fun k hk x => by have := hge k x; omega), hm.keep k2 (fun x => by have := hge _ x; omega)⟩
      · rintro c' X X' a b k1; exact k1.elim
      · intro j hj
        rw [List.getElem?_eq_getElem hj]
        simp [biV]
      · intro j hj X a ⟨k1, k2⟩ hX ha
        have hjD : j < D.length := by omega
        obtain ⟨y, hy⟩ : ∃ y, D[j]? = some y := ⟨D[j], List.getElem?_eq_getElem hjD⟩
        have hrow : ((biV (D.map fun y => (y, (0 : Int))))[j]?.getD []) = [y.val, .int .i64 0] := by simp [biV, hy]
        have hyx : y.ex = x.ex := (mem_exL.1 ((e2 y).1 (List.mem_of_getElem? hy))).2
        have hyE : (y.ex.toList == x.ex.toList) = true := by rw [hyx]; simp
        have htk : D.take (j + 1) = D.take j ++ [y] := by rw [List.take_add_one, hy]; rfl
        have hcn := cntB_snoc x (D.take j) y
        rw [← htk] at hcn
        have hcl := cntB_le x (D.take j)
        rw [List.length_take] at hcl
        clear k1 k2
        rw [hrow]
        simp only [ZB, insVc, load1K, storeNK, setMany, iopK, iopV, faddrK, isPlain, Value.cells, ne_eq, Nat.reduceEqDiff, Nat.reduceAdd, Nat.reduceLeDiff, reduceCtorEq, Zak, Zai, Zaj, Zal, Zam, Zan, Int.reduceBNe, Zas, Zaq, Zar, Zbi, updMany, Bi.val, Bi.cells]
        refine ⟨((Mod.refl _ _).alloc _).set (.inl (Nat.le_refl _)), ?_⟩
        rintro z hmz ⟨k1, k2⟩
        have hxa : ¬ X a.heap.size := fun x => by have := (hX _ x).2; omega
        have pz := hmz.keep (get_set_same _ _ (.cells #[.string y.ex, .int .i64 y.kind, .string y.key, .string y.q] 64 (0, 0)) (by rw [size_alloc]; omega)) hxa
        have hge : ∀ k, X k → u2.heap.size ≤ k ∧ k < z.heap.size := fun k hk => by have := hX k hk; have := hmz.size; simp only [size_set, size_alloc] at this; omega
        have hza : a.heap.size < z.heap.size := lt_of_get pz
        have pxz := k1.keep px2 (by omega)
        simp only [ZB, insVc, pickK, load1K, loadNK, sopK, sopV, faddrK, ne_eq, Nat.reduceEqDiff, Nat.reduceAdd, Nat.reduceLeDiff, Za, Zah, Zak, Zai, Zaj, Zaf, Zba, Zb, Zaw, Zav, Zay, Zax, pz, pxz, hyE]
        refine rawK_eql_bi x y rfl rfl rfl rfl rfl ?_
        cases hq : eqBi x y with
        | true =>
          rw [hq, if_pos rfl] at hcn
          have hwc : IntKind.i64.wrap (((cntB x (D.take j) : Nat) : Int) + 1) = ((cntB x (D.take (j + 1)) : Nat) : Int) := by rw [wrap_i64 _ (by omega), hcn]; omega
          have hst : Mod (fun k => k = u.heap.size + 1) z (Vc.set z (u.heap.size + 1) (.cells #[.int .i64 (cntB x (D.take (j + 1)))] 3 (0, 0))) := (Mod.refl _ _).set (.inr rfl)
          simp only [ZB, insVc, load1K, storeK, iopK, iopV, isPlain, ne_eq, Nat.reduceEqDiff, Nat.reduceLT, Nat.reduceLeDiff, reduceCtorEq, Za, Zah, Zak, Zai, Zaj, Zal, Zam, Zao, k2, hwc]
          refine ⟨⟨Nat.le_refl _, fun k hk => hst.get k (hge k hk).2 (by have := hge k hk; omega)⟩, .inl ⟨k1.trans hst, get_set_same _ _ _ (lt_of_get k2)⟩⟩
        | false =>
          rw [hq, if_neg (by simp)] at hcn
          simp only [ZB, reduceCtorEq]
          exact ⟨⟨Nat.le_refl _, fun _ _ => trivial⟩, .inl ⟨k1, by rw [hcn]; exact k2⟩⟩
      · rintro X z ⟨k1, k2⟩ ⟨d1', d2', d3'⟩
        rw [hlenD, List.take_length, cntB_one e3 hxD] at k2
        have hw2 : IntKind.i64.wrap ((i : Int) + ((1 : Nat) : Int)) = ((i + 1 : Nat) : Int) := hw1
        have hmuz := back z k1
        have hmz2 := k1.size
        simp only [ZB, insVc, load1K, iopK, iopV, ne_eq, Nat.reduceEqDiff, reduceCtorEq, Za, Zah, k2, g0, g3, g4, g9, g53, g54, g55, hw1, hw2]
        refine ⟨B.bs.length - (i + 1), by omega, i + 1, u2.heap.size :: Ds, by omega, rfl, rfl, rfl, rfl, hmu.trans hmuz, ?_, ?_, ?_⟩
        · intro F hF
          rcases List.mem_cons.1 hF with rfl | hF
          · exact d1'
          · exact hmuz.keep (hDs F hF) id
        · refine List.nodup_cons.2 ⟨fun hF => ?_, hnd⟩
          have := lt_of_get (hDs _ hF)
          omega
        · intro F hF
          rcases List.mem_cons.1 hF with rfl | hF
          · left; omega
          · exact hDw F hF
      · rintro c' X z k1; exact k1.elim
    · have d1 : ¬ (i : Int) < ((B.bs.length : Nat) : Int) := by omega
      have hie : i = B.bs.length := by omega
      rw [hie] at g9
      simp only [ZB, insVc, iopK, iopV, reduceCtorEq, g54, g55, d1]
      exact h u _ Ds hmu hDs hnd hDw g3 g4 g9
end Go.Oct

namespace Go.Oct
open Go Go.Vc Go.VrA Go.VrF
set_option maxRecDepth 100000

theorem same21_c (sb mb bk : Nat) (h0 : 0 ≠ mb) (c : Nat) (map : M) (B : Bk) (m : Int) (w : World) (K : Value → World → Prop) (hAt : (shelf sb mb h0).At (c, map) w) (hb : BookAt w bk B) (hg : Gl m w)
    (hr : Rg B map) (hB : B.small (2 ^ 16)) (hml : map.length * 16 ≤ 140737488355328)
    (h : ∀ w', Mod (fun _ => False) w w' → K (.bool true) w') :
    Ok Proofs.Tryz.prog 33 #[.iface 26 (ptr sb), ptr bk] w K := by
  refine F33.enter (args := [.iface 26 (ptr sb), ptr bk]) (by simp) ?_
  rw [c33_s]
  unfold r33
  simp only [ZB, subC, c33, insVc, Value.cells, Zab, Za, Zag]
  refine vc_gen2 ?_
  intro w1 hw1
  have hm1 : Mod (fun _ => False) w w1 := by rw [hw1]; exact (((Mod.refl _ _).alloc _).alloc _).alloc _
  have q3 : w1.heap[w.heap.size]? = some (.cells #[ptr bk] 68 (0, 0)) := by rw [hw1]; simp only [Nat.reduceAdd, reduceCtorEq, Zac, Zaf, size_alloc, get_alloc, size_alloc, Zat, Nat.reduceAdd, Zbl, Zbh]
  have q4 : w1.heap[w.heap.size + 1]? = some (.cells #[.bool false] 4 (0, 0)) := by rw [hw1]; simp only [Nat.reduceEqDiff, Nat.reduceAdd, Zac, Zaf, size_alloc, get_alloc, size_alloc, Zat, Nat.reduceAdd, Zbm, Zbj, Nat.reduceEqDiff, Zbh]
  have q5 : w1.heap[w.heap.size + 1 + 1]? = some (.cells #[.slice none 0 0] 80 (0, 0)) := by rw [hw1]; simp only [Nat.reduceEqDiff, Nat.reduceAdd, reduceCtorEq, Zac, Zaf, size_alloc, get_alloc, size_alloc, Zat, Nat.reduceAdd, Zbm, Zbj, Nat.reduceEqDiff]
  clear hw1
  have l5 := lt_of_get q5
  refine same_a sb mb bk w.heap.size (w.heap.size + 1 + 1) h0 c map B m w w1 _ _ hAt hb hg hm1 hr hB hml q3 q5 (by omega) (by omega) (by simp only [ZB, ne_eq, reduceCtorEq, Zab, Za]) (by simp only [ZB, ne_eq, Nat.reduceEqDiff]) (by simp only [ZB] <;> simp only [get_alloc, get_set, size_alloc, size_set, size_drew, get_drew, Zat, Nat.reduceAdd, Zbm, Zbj, Zbl, Nat.reduceEqDiff, Zce, Zcg, Nat.reduceLT, Zbh, false_and]) ?_
  intro w2 ρ2 v E hm2 p5 ho hE hEw r0 r3 r4 r5
  have hm02 : Mod (fun _ => False) w w2 := hm1.then hm2 (fun k hk e => by omega)
  have p3 := hm2.keep q3 (by omega)
  have p4 := hm2.keep q4 (by omega)
  have r0' : ρ2 0 = .iface 26 (ptr sb) := by rw [r0]; simp only [ZB, ne_eq, reduceCtorEq, Zab, Za]
  have r3' : ρ2 3 = ptr w.heap.size := by rw [r3]; simp only [ZB, ne_eq, Nat.reduceEqDiff]
  have r4' : ρ2 4 = ptr (w.heap.size + 1) := by rw [r4]; simp only [ZB, ne_eq, Nat.reduceEqDiff] <;> simp only [get_alloc, get_set, size_alloc, size_set, size_drew, get_drew, Zat, Nat.reduceAdd, Zbm, Zbj, Zbl, Nat.reduceEqDiff, Zce, Zcg, Nat.reduceLT, Zbh, false_and]
  have r5' : ρ2 5 = ptr (w.heap.size + 1 + 1) := by rw [r5]; simp only [ZB] <;> simp only [get_alloc, get_set, size_alloc, size_set, size_drew, get_drew, Zat, Nat.reduceAdd, Zbm, Zbj, Zbl, Nat.reduceEqDiff, Zce, Zcg, Nat.reduceLT, Zbh, false_and]
  clear r0 r3 r4 r5
  have hsl : IsSl w2 v (stV B.names) := IsSl.own (by rw [stV_len]; exact ho)
  have hnl : B.names.length < 2 ^ 40 := by
    have := names_len B.qs [] List.Pairwise.nil
    have h1 := hB.1
    unfold Bk.names
    simp at this; omega
  simp only [ZB]
  unfold c33e
  simp only [ZB, subC, c33]
  refine draw_d (Mod (fun _ => False) w2) (by kernel_rfl) (by kernel_rfl) (by kernel_rfl) (by kernel_rfl) (Mod.refl _ _).drew ?_
  simp only [ZB, insVc, notK, ne_eq, Nat.reduceEqDiff, Zad, Zae, Zac, Zaf, pureI, vcD_nil, vcD_cons, stepD_pure, stepD_load, stepD_step, kindI, loadI]
  refine loadD1 (b := w.heap.size + 1 + 1) (o := 0) (v := v) (by simp only [ZB, r5']) (fun W hW => ⟨_, _, _, hW.keep p5 id, rfl⟩) ?_
  refine loadD1 (b := w.heap.size) (o := 0) (v := ptr bk) (by simp only [ZB, ne_eq, Nat.reduceEqDiff, r3']) (fun W hW => ⟨_, _, _, hW.keep p3 id, rfl⟩) ?_
  refine bnames_c bk B w2.drew _ (hb.keep (hm02.trans (Mod.refl _ _).drew)) (by have := hB.1; omega) ?_
  intro w3 v3 hm3 hsl3
  have hm23 : Mod (fun _ => False) w2 w3 := (Mod.refl _ _).drew.trans hm3
  refine ⟨hm23, ?_⟩
  refine equal_c B.names v v3 w3 _ (hsl.keep hm23) hsl3 hnl ?_
  intro w4 hm4
  have hm24 := hm23.trans hm4
  refine ⟨hm24, ?_⟩
  have hm04 := hm02.trans hm24
  have p34 := hm24.keep p3 id
  have p44 := hm24.keep p4 id
  have E4 := hm24.keep hE id
  have z24 := hm24.size
  refine same_b sb mb bk w.heap.size (w.heap.size + 1) h0 c map B m E w w4 _ _ hAt hb hg hm04 hr hB hml p34 E4 (by simp only [ZB, ne_eq, reduceCtorEq, r0']) (by simp only [ZB, ne_eq, Nat.reduceEqDiff, r3']) (by simp only [ZB, ne_eq, Nat.reduceEqDiff, r4']) (by simp only [ZB]) ?_
  intro w5 ρ5 Ds hm5 hDs hnd hDw s3 s4 s9
  have hm05 := hm04.trans hm5
  have p35 := hm5.keep p34 id
  have p45 := hm5.keep p44 id
  have hb5 := hb.keep hm05
  obtain ⟨vq, vb, vx, b1, b2, b3, b4⟩ := id hb5
  obtain ⟨ab, cb, rfl, _, _⟩ := map_add0 b3
  have e0t : ∀ z : Int, (z == z) = true := fun z => by simp
  have hst : Mod (fun k => k = w.heap.size + 1) w5 (Vc.set w5 (w.heap.size + 1) (.cells #[.bool true] 4 (0, 0))) := (Mod.refl _ _).set (.inr rfl)
  have hDp : ∀ D ∈ Ds, w.heap.size ≤ D ∧ D ≠ w.heap.size + 1 := by
    intro D hD
    refine ⟨?_, fun e => ?_⟩
    · have := hm04.size
      have := hm1.size
      rcases hDw D hD with e | e <;> omega
    · have h1 := hDs D hD
      rw [e, p45] at h1; cases h1
  simp only [ZB]
  unfold c33z
  simp only [ZB, subC, c33, insVc, load1K, storeK, nilK, iopK, iopV, faddrK, lenLK, isPlain, ne_eq, Nat.reduceEqDiff, Nat.reduceLT, Nat.reduceLeDiff, reduceCtorEq, Za, Zag, Zah, Zak, Zai, Zaj, Zal, Zam, Zao, s3, s4, s9, p35, b1, p45, e0t]
  refine endK_marks Ds _ ?_ hnd ?_
  · intro D hD
    exact hst.keep (hDs D hD) (hDp D hD).2
  · intro w6 hm6
    have r6 := hm6.keep (get_set_same w5 _ (.cells #[.bool true] 4 (0, 0)) (lt_of_get p45)) (fun hD => (hDp _ hD).2 rfl)
    simp only [ZB, resK, res1, packed, ne_eq, Nat.reduceEqDiff, Zaa, s4, r6]
    refine h w6 ((hm05.then hst (fun k hk e => by omega)).then hm6 (fun k hk hD => ?_))
    have := (hDp k hD).1
    omega
end Go.Oct

namespace Go.Oct
open Go Go.Vc Go.VrA Go.VrF
set_option maxRecDepth 100000

/-! ### RegistryPlays -/

def nsq : ByteArray := ⟨#[110, 111, 32, 115, 117, 99, 104, 32, 113, 117, 101, 117, 101]⟩
theorem nameB_nsq : nameB nsq = false := by
  unfold nameB
  have h : Lib.idxFunc (fun x => !(plainI x)) true nsq = 2 := by decide
  rw [h]
  simp

noncomputable def c6l : CC := subC c6 [1, 1, 1, 1, 0]
noncomputable def c6m : CC := subC c6 [1, 1, 1, 1, 1, 0]
noncomputable def c6z : CC := subC c6 [1, 1, 1, 1, 1, 1]
theorem c6_s : c6 = .seq (subC c6 [0]) (.seq (subC c6 [1, 0]) (.seq (subC c6 [1, 1, 0]) (.seq (subC c6 [1, 1, 1, 0]) (.seq c6l (.seq c6m c6z))))) := rfl

theorem shelf_gt {sb mb : Nat} {h0 : 0 ≠ mb} {s : Nat × M} {w : World} (h : (shelf sb mb h0).At s w) : sb < w.heap.size ∧ mb < w.heap.size := ⟨lt_of_get h.1, World.ownsMap.lt h.2.1⟩

/-- the script, act by act. -/
theorem plays_acts (sb mb bk : Nat) (h0 : 0 ≠ mb) (L : List Ag) (a : Option Addr) (cp : Nat) (m : Int) (wA w : World) (Q : QT) (ρ0 : Env) (hA : (shelf sb mb h0).At (0, []) w) (hb : BookAt w bk bk0) (hsb : sb < bk) (hmb : mb < bk) (hg : Gl m w) (hz : 0 < w.heap.size) (hbk0 : bk ≠ 0)
    (hmA : Mod (fun _ => False) wA w) (hmbA : wA.heap.size ≤ mb) (hbkA : wA.heap.size ≤ bk) (hat : ∀ (i : Nat) (x : Ag), L[i]? = some x → ∃ b o c cur t f, (Value.slice a L.length cp) = .slice (some ⟨b, o, none⟩) L.length c ∧ wA.heap[b]? = some (.cells cur t f) ∧ o + i * 10 + 10 ≤ cur.size ∧ cur.extract (o + i * 10) (o + i * 10 + 10) = x.cells.toArray)
    (hL : L.length ≤ 40) (hok : ∀ x ∈ L, x.right)
    (r0 : ρ0 0 = .slice a L.length cp) (r3 : ρ0 3 = ptr sb) (r4 : ρ0 4 = ptr bk)
    (h : ∀ w' ρ' c map B, Mod (fun k => k = mb ∨ k = bk) w w' → (shelf sb mb h0).At (c, map) w' → BookAt w' bk B → Rg B map → c ≤ 40 → map.length ≤ 40 → B.small 40 → ρ' 3 = ptr sb → ρ' 4 = ptr bk → Q .normal ρ' [] w') :
    vc Proofs.Tryz.prog none 74 c6l Q ρ0 [] w := by
  have hwA := hmA.size
  unfold c6l
  simp only [ZB, subC, c6, insVc, lenLK, r0]
  refine vc_loop (fun mm ρ ds u => ∃ (i : Nat) (B : Bk) (c : Nat) (map : M), i ≤ L.length ∧ mm = L.length - i ∧ ds = [] ∧ ρ 3 = ptr sb ∧ ρ 4 = ptr bk ∧ ρ 21 = .slice a L.length cp ∧ ρ 22 = .int .i64 L.length ∧ ρ 23 = .int .i64 i ∧
    Mod (fun k => k = mb ∨ k = bk) w u ∧ (shelf sb mb h0).At (c, map) u ∧ BookAt u bk B ∧ Rg B map ∧ c ≤ i ∧ map.length ≤ i ∧ B.small i) (L.length - 0) ?_ ?_
  · exact ⟨0, bk0, 0, [], Nat.zero_le _, rfl, rfl, by simp only [ZB, ne_eq, Nat.reduceEqDiff, r3], by simp only [ZB, ne_eq, Nat.reduceEqDiff, r4], by simp only [ZB, ne_eq, Nat.reduceEqDiff], by simp only [ZB, ne_eq, Nat.reduceEqDiff], by simp only [ZB] <;> rfl, Mod.refl _ _, hA, hb, Rg.nil, Nat.le_refl _, Nat.le_refl _, ⟨Nat.le_refl _, Nat.le_refl _, Nat.le_refl _⟩⟩
  · rintro mm ρ ds u ⟨i, B, c, map, hi, rfl, rfl, g3, g4, g21, g22, g23, hmu, hAu, hbu, hr, hc, hml, hBs⟩
    by_cases c1 : i < L.length
    · have d1 : (i : Int) < ((L.length : Nat) : Int) := by omega
      obtain ⟨x, hxi⟩ : ∃ x, L[i]? = some x := ⟨L[i], List.getElem?_eq_getElem c1⟩
      obtain ⟨b, o, cc, cur, t, f, he, hbh, hsz, hex⟩ := hat i x hxi
      have ha' : a = some ⟨b, o, none⟩ := by simpa using congrArg (fun x => match x with | .slice a _ _ => a | _ => none) he
      subst ha'
      rw [Nat.add_assoc] at hsz hex
      have lb := lt_of_get hbh
      have hbx := hmu.keep (hmA.keep hbh id) (by omega)
      have hi0' : (0 : Int) ≤ (i : Int) ∧ (i : Int) < ((L.length : Nat) : Int) := by omega
      have hw1 : IntKind.i64.wrap ((i : Int) + 1) = ((i + 1 : Nat) : Int) := by rw [wrap_i64 _ (by omega)]; omega
      have hxr := hok x (List.mem_of_getElem? hxi)
      have hms := hmu.size
      obtain ⟨u1, hu1⟩ : ∃ u1, u1 = Vc.set (u.alloc (.cells #[.int .i64 0, .string ⟨#[]⟩, .int .u32 0, .int .u64 0, .int .u32 0, .string ⟨#[]⟩, .string ⟨#[]⟩, .int .i64 0, .string ⟨#[]⟩, .string ⟨#[]⟩] 66)) u.heap.size (.cells #[.int .i64 x.act, .string x.q.name, .int .u32 x.q.most, .int .u64 x.q.ttl, .int .u32 x.q.tries, .string x.q.dead, .string x.b.ex, .int .i64 x.b.kind, .string x.b.key, .string x.b.q] 66) := ⟨_, rfl⟩
      have hmu1 : Mod (fun _ => False) u u1 := by rw [hu1]; exact ((Mod.refl _ _).alloc _).set (.inl (Nat.le_refl _))
      have hz1 := hmu1.size
      have hg1 := (hg.mod hmu (fun e => by rcases e with e | e <;> omega)).mod hmu1 id
      have hval : (Value.agg #[.int .i64 x.act, .string x.q.name, .int .u32 x.q.most, .int .u64 x.q.ttl, .int .u32 x.q.tries, .string x.q.dead, .string x.b.ex, .int .i64 x.b.kind, .string x.b.key, .string x.b.q]) = x.val := rfl
      have hA1 := (shelf sb mb h0).keep0 hAu hmu1
      have hb1 := hbu.keep hmu1
      have hz1' : 0 < u1.heap.size := by omega
      have hBs1 : B.small (2 ^ 16) := ⟨by have := hBs.1; omega, by have := hBs.2.1; omega, by have := hBs.2.2; omega⟩
      have hml1 : map.length * 16 ≤ 140737488355328 := by omega
      have hc1 : c + 4 < maxLen := by show c + 4 < 9223372036854775807; omega
      simp only [ZB, insVc, loadNK, storeNK, setMany, iopK, iopV, iaddrK, isPlain, Value.cells, ne_eq, Nat.reduceEqDiff, Nat.reduceAdd, Nat.reduceLeDiff, reduceCtorEq, Zad, Zae, Zak, Zai, Zaj, Zal, Zam, Zan, Zaa, Zap, Zac, Zau, Zba, Zb, Zaw, Zav, Zay, Zax, Zas, Zaq, Zar, Zaz, Zao, get_alloc, Zat, Nat.reduceAdd, Nat.reduceEqDiff, g3, g4, g21, g22, g23, d1, hi0', hbx, hsz, hex, Ag.cells, Qu.cells, Bi.cells]
      rw [← hu1, hval]
      refine do21_c sb mb bk h0 c map B x m u1 _ hA1 hb1 hsb hmb hg1 hz1' hbk0 hr hBs1 hml1 hxr hc1 ?_
      intro u2 c2 map2 hm2 hA2 hb2 hr2 hc2 hml2
      have hs2 := doB_small x hBs
      have hg2 := hg1.mod hm2 (fun e => by rcases e with e | e <;> omega)
      have hs21 : (doB x B).small (2 ^ 16) := ⟨by have := hs2.1; omega, by have := hs2.2.1; omega, by have := hs2.2.2; omega⟩
      have hml21 : map2.length * 16 ≤ 140737488355328 := by omega
      simp only [ZB, insVc, notK, ne_eq, Nat.reduceEqDiff, Zad, Zae, g3, g4]
      refine same21_c sb mb bk h0 c2 map2 (doB x B) m u2 _ hA2 hb2 hg2 hr2 hs21 hml21 ?_
      intro u3 hm3
      simp only [ZB, insVc, pickK, iopK, iopV, notK, ne_eq, Nat.reduceEqDiff, reduceCtorEq, Zaf, g3, g4, g21, g22, g23, hw1]
      refine ⟨L.length - (i + 1), by omega, i + 1, doB x B, c2, map2, by omega, rfl, rfl, ((hmu.trans (hmu1.mono fun _ _ x => x.elim)).trans hm2).trans (hm3.mono fun _ _ x => x.elim), (shelf sb mb h0).keep0 hA2 hm3, hb2.keep hm3, hr2, by omega, by omega, hs2⟩
    · have d1 : ¬ (i : Int) < ((L.length : Nat) : Int) := by omega
      simp only [ZB, insVc, iopK, iopV, reduceCtorEq, g22, g23, d1]
      exact h u _ c map B hmu hAu hbu hr (by omega) (by omega) ⟨by have := hBs.1; omega, by have := hBs.2.1; omega, by have := hBs.2.2; omega⟩ g3 g4

/-- each queue is found. -/
theorem plays_finds (sb mb bk : Nat) (h0 : 0 ≠ mb) (c : Nat) (map : M) (B : Bk) (m : Int) (w : World) (Q : QT) (ρ0 : Env) (hA : (shelf sb mb h0).At (c, map) w) (hb : BookAt w bk B) (hmb : mb < bk) (hg : Gl m w)
    (hr : Rg B map) (hB : B.small 40) (r3 : ρ0 3 = ptr sb) (r4 : ρ0 4 = ptr bk)
    (h : ∀ w' ρ', Mod (fun k => k = mb) w w' → (shelf sb mb h0).At (c, map) w' → ρ' 3 = ptr sb → Q .normal ρ' [] w') :
    vc Proofs.Tryz.prog none 74 c6m Q ρ0 [] w := by
  obtain ⟨vq, vb, vx, b1, b2, b3, b4⟩ := id hb
  obtain ⟨ab, cb, rfl, _, _⟩ := map_add0 b2
  have hat := (isT_own (s := 5) (cells := Qu.cells) (fun _ => rfl) (by decide) b2).2
  have hvg : ∀ k, ((shelf sb mb h0).get (c, map) k).1.1.size < 2 ^ 60 := fun k => get_size sb mb h0 _ _ (by decide) hr.valsN _
  have hl40 := hB.1
  unfold c6m
  simp only [ZB, subC, c6, insVc, load1K, nilK, faddrK, lenLK, Za, Zah, r4, b1]
  refine vc_loop (fun mm ρ ds u => ∃ (i : Nat), i ≤ B.qs.length ∧ mm = B.qs.length - i ∧ ds = [] ∧ ρ 3 = ptr sb ∧ ρ 44 = .slice ab B.qs.length cb ∧ ρ 45 = .int .i64 B.qs.length ∧ ρ 46 = .int .i64 i ∧
    Mod (fun k => k = mb) w u ∧ (shelf sb mb h0).At (c, map) u) (B.qs.length - 0) ?_ ?_
  · exact ⟨0, Nat.zero_le _, rfl, rfl, by simp only [ZB, ne_eq, Nat.reduceEqDiff, r3], by simp only [ZB, ne_eq, Nat.reduceEqDiff], by simp only [ZB, ne_eq, Nat.reduceEqDiff], by simp only [ZB] <;> rfl, Mod.refl _ _, hA⟩
  · rintro mm ρ ds u ⟨i, hi, rfl, rfl, g3, g44, g45, g46, hmu, hAu⟩
    by_cases c1 : i < B.qs.length
    · have d1 : (i : Int) < ((B.qs.length : Nat) : Int) := by omega
      obtain ⟨x, hxi⟩ : ∃ x, B.qs[i]? = some x := ⟨B.qs[i], List.getElem?_eq_getElem c1⟩
      obtain ⟨b, o, cc, cur, t, f, he, hbh, hsz, hex⟩ := hat i x hxi
      have ha' : ab = some ⟨b, o, none⟩ := by simpa using congrArg (fun x => match x with | .slice a _ _ => a | _ => none) he
      subst ha'
      rw [Nat.add_assoc] at hsz hex
      have hbb : bk + 1 ≤ b := (World.ownsRow.lt b2 b rfl).1
      have hbx := hmu.keep hbh (by omega)
      have hi0' : (0 : Int) ≤ (i : Int) ∧ (i : Int) < ((B.qs.length : Nat) : Int) := by omega
      have hw1 : IntKind.i64.wrap ((i : Int) + 1) = ((i + 1 : Nat) : Int) := by rw [wrap_i64 _ (by omega)]; omega
      have hxB := List.mem_of_getElem? hxi
      have hxn := hr.qn x hxB
      have hgx : getQ x.name B.qs = (x, 0) := by
        obtain ⟨e1, e2, e3⟩ := getQ_in (name := x.name) ⟨x, hxB, rfl⟩
        exact Prod.ext (name_uniq hr.qd e2 hxB e3) e1
      obtain ⟨u1, hu1⟩ : ∃ u1, u1 = Vc.set (u.alloc (.cells #[.string ⟨#[]⟩, .int .u32 0, .int .u64 0, .int .u32 0, .string ⟨#[]⟩] 33)) u.heap.size (.cells #[.string x.name, .int .u32 x.most, .int .u64 x.ttl, .int .u32 x.tries, .string x.dead] 33) := ⟨_, rfl⟩
      have hmu1 : Mod (fun _ => False) u u1 := by rw [hu1]; exact ((Mod.refl _ _).alloc _).set (.inl (Nat.le_refl _))
      have px1 : u1.heap[u.heap.size]? = some (.cells #[.string x.name, .int .u32 x.most, .int .u64 x.ttl, .int .u32 x.tries, .string x.dead] 33 (0, 0)) := by rw [hu1]; simp only [size_alloc, Zaz, Zao, size_alloc]
      have hmbu := (shelf_gt hAu).2
      have hg1 := (hg.mod hmu (fun e => h0 e)).mod hmu1 id
      simp only [ZB, insVc, load1K, loadNK, storeNK, setMany, iopK, iopV, faddrK, iaddrK, isPlain, Value.cells, ne_eq, Nat.reduceEqDiff, Nat.reduceAdd, Nat.reduceLeDiff, reduceCtorEq, Zad, Zae, Za, Zah, Zak, Zai, Zaj, Zal, Zam, Zan, Zac, Zau, Zas, Zaq, Zar, Zaz, Zao, get_alloc, Zat, Nat.reduceAdd, Nat.reduceEqDiff, g3, g44, g45, g46, d1, hi0', hbx, hsz, hex, Qu.cells]
      rw [← hu1]
      refine find_c (shelf sb mb h0) (c, map) x.name m u1 _ ((shelf sb mb h0).keep0 hAu hmu1) hg1 (by have := (nameB_size hxn.1).1; omega) (hvg _) ?_
      intro u2 hm2 hA2
      have hm2 : Mod (fun k => k = mb) u1 u2 := hm2
      rw [find_shelf2 sb mb h0 c hr, hgx] at hA2 ⊢
      have px2 := hm2.keep px1 (by omega)
      have lpx := lt_of_get px2
      obtain ⟨u3, hu3⟩ : ∃ u3, u3 = Vc.set (u2.alloc (.cells #[.string ⟨#[]⟩, .int .u32 0, .int .u64 0, .int .u32 0, .string ⟨#[]⟩] 33)) u2.heap.size (.cells #[.string x.name, .int .u32 x.most, .int .u64 x.ttl, .int .u32 x.tries, .string x.dead] 33) := ⟨_, rfl⟩
      have hm3 : Mod (fun _ => False) u2 u3 := by rw [hu3]; exact ((Mod.refl _ _).alloc _).set (.inl (Nat.le_refl _))
      have px3 := hm3.keep px2 id
      have py3 : u3.heap[u2.heap.size]? = some (.cells #[.string x.name, .int .u32 x.most, .int .u64 x.ttl, .int .u32 x.tries, .string x.dead] 33 (0, 0)) := by rw [hu3]; simp only [size_alloc, Zaz, Zao, size_alloc]
      simp only [ZB, insVc, loadNK, storeNK, setMany, iopK, iopV, extK, isPlain, Value.cells, ne_eq, Nat.reduceEqDiff, Nat.reduceAdd, Nat.reduceLeDiff, reduceCtorEq, Za, Zag, Zah, Zak, Zai, Zaj, Zal, Zam, Zan, Int.reduceBNe, Zba, Zb, Zaw, Zav, Zay, Zax, Zas, Zaq, Zar, Zbi, Zaz, Zao, Qu.val, Qu.cells]
      rw [← hu3]
      simp only [ZB, insVc, ne_eq, Nat.reduceEqDiff, Nat.reduceAdd, Nat.reduceLeDiff, Zak, Zai, Zaj, Zba, Zb, Zaw, Zav, Zay, Zax, px3]
      refine rawK_neq_qu x x rfl rfl rfl rfl rfl ?_
      simp only [ZB, insVc, pickK, iopK, iopV, ne_eq, Nat.reduceEqDiff, reduceCtorEq, Zaf, eqQu_self, g3, g44, g45, g46, hw1]
      exact ⟨B.qs.length - (i + 1), by omega, i + 1, by omega, rfl, rfl, ((hmu.trans (hmu1.mono fun _ _ x => x.elim)).trans hm2).trans (hm3.mono fun _ _ x => x.elim), (shelf sb mb h0).keep0 hA2 hm3⟩
    · have d1 : ¬ (i : Int) < ((B.qs.length : Nat) : Int) := by omega
      simp only [ZB, insVc, iopK, iopV, reduceCtorEq, g45, g46, d1]
      exact h u _ hmu hAu g3

theorem plays21_c (L : List Ag) (vl : Value) (m : Int) (w : World) (K : Value → World → Prop) (hg : Gl m w) (hv : IsAgs w vl L) (hLl : L.length ≤ 9223372036854775807)
    (hLr : ∀ a ∈ L, (a.q.most < 2 ^ 32 ∧ a.q.ttl < 2 ^ 64 ∧ a.q.tries < 2 ^ 32) ∧ a.b.inI) (hLs : ∀ a ∈ L, a.szs maxLen)
    (h : ∀ w', Mod (fun _ => False) w w' → K (.bool true) w') :
    Ok Proofs.Tryz.prog 6 #[vl] w K := by
  obtain ⟨⟨a, cp, rfl⟩, hat⟩ := id hv
  refine F6.enter (args := [.slice a L.length cp]) (by simp) ?_
  rw [c6_s]
  unfold r6
  simp only [ZB, subC, c6, insVc, Zae]
  refine awake_c m w _ hg ?_
  intro w2 hm2
  simp only [ZB, insVc, notK, ne_eq, reduceCtorEq, Zab, Zad, Zae, Za]
  refine light21_c L 40 _ w2 _ (hv.keep hm2) hLl hLs ?_
  intro w3 r hm3 hok
  have hm03 := hm2.trans hm3
  cases r with
  | false =>
    simp only [ZB, endK, resK, packed, insVc, notK, Zaa]
    exact h _ hm03
  | true =>
  have hokL := hok rfl
  have hL40' : L.length ≤ 40 := by
    by_cases e : L = []
    · rw [e]; simp
    · obtain ⟨x, hx⟩ := List.exists_mem_of_ne_nil L e
      exact (hokL x hx).1
  simp only [ZB, insVc, notK, Zad, Zae]
  refine new_c [] _ w3 _ (.inl ⟨rfl, _, rfl⟩) (by simp) (fun _ h => by cases h) ?_
  intro w5 sb mb hm5 hsb hmb hs5
  have hz0 : 0 < w.heap.size := hg.lt
  have hz3 := hm03.size
  have h0 : 0 ≠ mb := by omega
  have hm05 := hm03.trans hm5
  have hmb5 := shelf_gt (h0 := h0) (s := (0, [])) hs5
  simp only [ZB, insVc, buildK, fillL, Value.cells, ne_eq, Nat.reduceEqDiff]
  refine vc_gen2 ?_
  intro w6 hw6
  have hm6 : Mod (fun _ => False) w5 w6 := by rw [hw6]; exact (Mod.refl _ _).alloc _
  have hb6 : BookAt w6 w5.heap.size bk0 := by
    rw [hw6]
    exact ⟨_, _, _, get_alloc_new _ _, World.ownsRow_nil _ _ _ 5, World.ownsRow_nil _ _ _ 4, World.ownsRow_nil _ _ _ 2⟩
  clear hw6
  have hm06 := hm05.trans hm6
  have hz5 := hm05.size
  have hz6 := hm6.size
  refine plays_acts sb mb w5.heap.size h0 L a cp m w w6 _ _ ((shelf sb mb h0).keep0 hs5 hm6) hb6 hmb5.1 hmb5.2 (hg.mod hm06 id) (by omega) (by omega) hm06 (by omega) hz5 hat hL40' (fun x hx => ⟨(hokL x hx).2, (hLr x hx).1, (hLr x hx).2⟩) (by simp only [ZB, ne_eq, reduceCtorEq, Zab, Za]) (by simp only [ZB, ne_eq, Nat.reduceEqDiff]) (by simp only [ZB]) ?_
  intro w7 ρ7 c map B hm7 hA7 hb7 hr hc hml hBs s3 s4
  have hm07 : Mod (fun _ => False) w w7 := hm06.then hm7 (fun k hk e => by rcases e with e | e <;> omega)
  simp only [ZB]
  refine plays_finds sb mb w5.heap.size h0 c map B m w7 _ _ hA7 hb7 hmb5.2 (hg.mod hm07 id) hr hBs s3 s4 ?_
  intro w8 ρ8 hm8 hA8 t3
  have hm08 : Mod (fun _ => False) w w8 := hm07.then hm8 (fun k hk e => by omega)
  simp only [ZB]
  unfold c6z
  simp only [ZB, subC, c6, insVc, Zad, Zae, t3]
  refine find_c (shelf sb mb h0) (c, map) nsq m w8 _ hA8 (hg.mod hm08 id) (by decide) (get_size sb mb h0 _ _ (by decide) hr.valsN _) ?_
  intro w9 hm9 hA9
  have hno : getQ nsq B.qs = (q0, 21) := getQ_out (fun ⟨q, hq, e⟩ => by
    have := (hr.qn q hq).1
    rw [e, nameB_nsq] at this; cases this)
  rw [find_shelf2 sb mb h0 c hr, hno]
  simp only [ZB, endK, resK, packed, insVc, storeNK, setMany, iopK, iopV, extK, isPlain, Value.cells, ne_eq, Nat.reduceEqDiff, Nat.reduceAdd, Nat.reduceLeDiff, reduceCtorEq, Za, Zag, Zah, Zak, Zai, Zaj, Zal, Zam, Zan, Zaa, Zac, Int.reduceBEq, Zas, Zaq, Zar, get_alloc, Nat.reduceAdd, Nat.reduceEqDiff, Qu.val, Qu.cells]
  exact h _ (((hm08.then hm9 (fun k hk e => by have e : k = mb := e; omega)).alloc _).set (.inl (by have := hm08.size; have := hm9.size; omega)))
end Go.Oct
