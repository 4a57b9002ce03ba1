import Derived.Test.YtbkddpckkgbbmaaGreatDoorVoN
import Derived.Test.YtbkddpckkgbbmaaGreatDoorVoR
set_option linter.unusedSimpArgs false
set_option linter.unusedVariables false
set_option linter.unusedSectionVars false
set_option linter.unnecessarySimpa false
namespace Go.Oct
open Go Go.Vc Go.VrA
set_option maxRecDepth 100000

/-! ### registry.things at api.Queue -/

def qgot (r : Pr) : Qu × Int :=
  if r.2 ≠ 0 then (q0, r.2) else
  if (parseR ⟨r.1.1.toArray⟩).2 ≠ 0 then (q0, (parseR ⟨r.1.1.toArray⟩).2) else qread (parseR ⟨r.1.1.toArray⟩).1.queue ⟨r.1.2.toArray⟩
def thingsQ : List Pr → List (Qu × Int)
  | [] => []
  | r :: l => if (qgot r).2 ≠ 0 then [(q0, (qgot r).2)] else ((qgot r).1, 0) :: thingsQ l
def quV (l : List (Qu × Int)) : List (List Value) := l.map fun r => [r.1.val, .int .i64 r.2]

theorem qgot58_c (t : Th) (v : ByteArray) (w : World) (K : Value → World → Prop) (hv : v.size < 2 ^ 60)
    (h : ∀ w', Mod (fun _ => False) w w' → K (.tuple #[(qread t.queue v).1.val, .int .i64 (qread t.queue v).2]) w') :
    Ok Proofs.Tryz.prog 58 #[t.val, .string v] w K := by
  refine F58.enter (args := [t.val, .string v]) (by simp) ?_
  unfold c58 r58
  simp only [ZB, insVc, load1K, faddrK, Value.cells, ne_eq, Nat.reduceEqDiff, Zab, Za, Th.val, Th.cells]
  simp only [ZB, insVc, Zad, Zae, Za, Zag, Zah, Zac, Zaf, get_alloc, Zbl, Zbh]
  refine callK_gen ?_
  intro w1 hw1
  have hm1 : Mod (fun _ => False) w w1 := by rw [hw1]; exact ((Mod.refl _ _).alloc _).alloc _
  have e1 : w1.heap[w.heap.size + 1]? = some (.cells zq 33 (0, 0)) := by rw [hw1]; simp only [Zac, Zaf, size_alloc, get_alloc, size_alloc, Zbj, Zbh]
  clear hw1
  refine queues_c _ w1 _ ?_
  intro w2 qv hm2 hq2
  simp only [ZB, insVc, ne_eq, Nat.reduceEqDiff, Zab, Zad, Zae, Za, Zag]
  refine qread_c qv _ _ v w2 _ hq2 hv ?_
  intro w3 hm3
  have e3 := (hm2.trans hm3).keep e1 id
  simp only [ZB, endK, resK, resN, packed, insVc, storeNK, setMany, extK, isPlain, ne_eq, Nat.reduceEqDiff, Nat.reduceAdd, Nat.reduceLeDiff, Za, Zag, Zah, Zak, Zai, Zaj, Zal, Zam, Zan, Zaa, Zap, Zba, Zb, Zaw, Zav, Zay, Zax, Zas, Zaq, Zar, Qu.val, Qu.cells, e3, get_set_same _ _ _ (lt_of_get e3)]
  exact h _ (((hm1.trans hm2).trans hm3).set (.inl (by omega)))

/-- the cells that things' function value holds. -/
def ThCells (u : World) (c1 c2 c3 c4 : Nat) (sort : ByteArray) (vl : Value) (t : TypeId) (v : Value) : Prop :=
  u.heap[c1]? = some (.cells #[.string sort] 9 (0, 0)) ∧ u.heap[c2]? = some (.cells #[vl] 197 (0, 0)) ∧
  u.heap[c3]? = some (.cells #[.iface t v] 125 (0, 0)) ∧ u.heap[c4]? = some (.cells #[.func (.func 58) #[] #[]] 143 (0, 0))

def PureRng {σ : Type} (St : Sto σ) (s : σ) : Prop := ∀ a b w (G : Value → World → Prop), St.At s w →
  (∀ w' gf cap, Mod (fun _ => False) w w' → IterP Proofs.Tryz.prog gf cap (rowsV (St.rng s a b).1) (fun u => St.At s u ∧ Kept w.heap.size w' u) → G (.func (.func gf) #[] cap.toArray) w') → InvK Proofs.Tryz.prog G St.t St.v "Range" [.string a, .string b] w
def Sto.under {σ : Type} (St : Sto σ) (s : σ) (sort : ByteArray) (l : List Pt) : List Pr :=
  if ((underK sort l).1.toList == (⟨#[]⟩ : ByteArray).toList) then [] else (St.rng s (underK sort l).1 (underK sort l).2).1

theorem things1_c {σ : Type} (St : Sto σ) (s : σ) (hpure : PureRng St s) (sort : ByteArray) (l : List Pt) (vl : Value) (c1 c2 c3 c4 : Nat) (m : Int)
    (hl : l.length < 2 ^ 20) (hs : sort.size < 4294967281) (hp : ∀ p ∈ l, p.good) (hv : ∀ r ∈ St.under s sort l, r.1.2.length < 2 ^ 60) :
    IterP Proofs.Tryz.prog 131 [ptr c1, ptr c2, ptr c3, ptr c4] (quV (thingsQ (St.under s sort l))) (fun u => St.At s u ∧ Gl m u ∧ IsArg u vl l ∧ ThCells u c1 c2 c3 c4 sort vl St.t St.v) := by
  rintro y ⟨fy, ya, yb, hyf⟩ J Jx w hJ hF hS hSx hy
  refine F131.enter (args := [y, ptr c1, ptr c2, ptr c3, ptr c4]) (by simp) ?_
  unfold c131 r131
  obtain ⟨hA, hg, hvl, e1, e2, e3, e4⟩ := hF 0 _ _ hJ
  have q1 := lt_of_get e1
  have q2 := lt_of_get e2
  have q1' : ¬ c1 = w.heap.size + 1 := by omega
  have q2' : ¬ c2 = w.heap.size + 1 := by omega
  simp only [ZB, insVc, load1K, Value.cells, ne_eq, Nat.reduceEqDiff, Zab, Zad, Zae, Za, Zag, Zah, Zaf, get_alloc, Nat.reduceEqDiff, e1, e2, Nat.ne_of_lt q1, Nat.ne_of_lt q2, q1', q2']
  refine callK_gen ?_
  intro w1 hw1
  have hm1 : Mod (fun _ => False) w w1 := by rw [hw1]; exact ((Mod.refl _ _).alloc _).alloc _
  have b1 : w1.heap[w.heap.size]? = some (.cells #[y] 227 (0, 0)) := by rw [hw1]; simp only [Zac, Zaf, size_alloc, get_alloc, size_alloc, Zbl, Zbh, hyf]
  have n1 : w1.heap[w.heap.size + 1]? = some (.cells zq 33 (0, 0)) := by rw [hw1]; simp only [Zac, Zaf, size_alloc, get_alloc, size_alloc, Zbj, Zbh]
  clear hw1
  have hvl1 : IsArg w1 vl l := by
    rcases hvl with h | ⟨g, cap, cur, h1, h2, h3⟩
    · exact .inl h
    · exact .inr ⟨g, cap, cur, h1, hm1.keep h2 id, h3⟩
  refine under_c sort l vl m w1 _ (hg.mod hm1 id) hvl1 hl hs hp ?_
  intro w2 hm2
  have hm12 := hm1.trans hm2
  have hz := hm12.size
  simp only [ZB, insVc, sopK, sopV, extK, ne_eq, Nat.reduceEqDiff, Za, Zag, Zah]
  unfold Sto.under at hy hv ⊢
  refine condP_split ?_ ?_
  · intro hc
    simp only [ZB, endK, resK]
    rw [if_pos hc]
    exact ⟨hz, fun k => w.heap.size ≤ k ∧ k < w2.heap.size, fun k hk => hk, .inl (hS 0 _ _ w w2 hJ (hm12.mono fun _ _ x => x.elim) (fun k hk => .inr hk))⟩
  intro hc
  rw [if_neg (by rw [hc]; exact Bool.false_ne_true)] at hy hv ⊢
  have e3' := hm12.keep e3 id
  simp only [ZB, insVc, load1K, invK, ne_eq, Nat.reduceEqDiff, Zab, Zad, Zae, Za, Zag, Zah, e3']
  generalize (underK sort l).1 = from' at *
  generalize (underK sort l).2 = to' at *
  refine hpure _ _ w2 _ (St.keep0 hA hm12) ?_
  intro w4 gf cap hm4 it
  have hm14 := hm12.trans hm4
  have hz4 := hm4.size
  have b4 := (hm2.trans hm4).keep b1 id
  have n4 := (hm2.trans hm4).keep n1 id
  revert it hv hy
  generalize (St.rng s from' to').1 = R
  intro hv hy it
  simp only [ZB]
  let XO : (Nat → Prop) → Nat → Prop := fun X k => (w.heap.size ≤ k ∧ k < w4.heap.size + 2) ∨ X k
  have hXO : ∀ (X X' : Nat → Prop) (a b : World), (∀ k, X' k → X k ∨ a.heap.size ≤ k ∧ k < b.heap.size) → ∀ k, XO X' k → XO X k ∨ a.heap.size ≤ k ∧ k < b.heap.size := by
    rintro X X' a b h k (hk | hk)
    · exact .inl (.inl hk)
    · exact (h k hk).elim (fun x => .inl (.inr x)) .inr
  have hfin : ∀ (u : World) (X : Nat → Prop) (u' : World), w4.heap.size + 2 ≤ u.heap.size → (∀ k, X k → w4.heap.size ≤ k ∧ k < u.heap.size) → J (quV (thingsQ R)).length (XO X) u ∨ Jx (XO X) u → Mod (fun k => k = w4.heap.size) u u' →
      w.heap.size ≤ u'.heap.size ∧ ∃ X, (∀ k, X k → w.heap.size ≤ k ∧ k < u'.heap.size) ∧ (J (quV (thingsQ R)).length X u' ∨ Jx X u') := by
    intro u X u' h1 h2 h3 h4
    have h5 := h4.size
    have hb : ∀ k, XO X k → w.heap.size ≤ k ∧ k < u'.heap.size := by
      rintro k (hk | hk)
      · omega
      · have := h2 k hk; omega
    have hm : Mod (XO X) u u' := h4.mono fun k _ hk => .inl (by omega)
    exact ⟨by omega, XO X, hb, h3.imp (fun h => hS _ _ _ u u' h hm (fun k hk => .inl hk)) (fun h => hSx _ _ u u' h hm (fun k hk => .inl hk))⟩
  refine range_iter (by kernel_rfl) (by kernel_rfl) (by kernel_rfl) (gf := gf) (cap := cap) (by simp only [ZB]) it
    (fun i X u => (∃ pre : List (Qu × Int), pre.length = i ∧ thingsQ R = pre ++ thingsQ (R.drop i)) ∧ J i (XO X) u ∧ Kept w.heap.size w4 u)
    (fun c X u => c = .ret ∧ (J (quV (thingsQ R)).length (XO X) u ∨ Jx (XO X) u)) ?_ ?_ ?_ ?_ ?_ ?_ ?_ ?_
  · intro X w' hm hsz hX
    refine ⟨⟨[], rfl, by simp⟩, hS 0 _ _ w w' hJ ((hm14.trans hm).mono fun _ _ x => x.elim) ?_, (Kept.refl _ _).keep hm (fun _ _ _ => id)⟩
    rintro k (hk | hk)
    · exact .inr ⟨hk.1, by omega⟩
    · have := hX k hk
      exact .inr (by omega)
  · rintro i X u ⟨_, h1, h2⟩
    exact ⟨(hF _ _ _ h1).1, h2.1, fun k hk hk' => h2.2 k (by omega) hk'⟩
  · rintro i X X' a b ⟨h0, h1, h2⟩ hX ha hm hx
    exact ⟨h0, hS i _ _ a b h1 (hm.mono fun _ _ x => .inr x) (hXO X X' a b hx), h2.keep hm (fun k _ hk x => by have := hX k x; omega)⟩
  · rintro c X X' a b ⟨rfl, h⟩ hX ha hm hx
    exact ⟨rfl, h.imp (fun h => hS _ _ _ a b h (hm.mono fun _ _ x => .inr x) (hXO X X' a b hx)) (fun h => hSx _ _ a b h (hm.mono fun _ _ x => .inr x) (hXO X X' a b hx))⟩
  · intro i hi
    rw [List.getElem?_eq_getElem hi]
    simp [rowsV]
  · intro i hi X a ⟨⟨pre, p1, p2⟩, hJa, hKa⟩ hX ha
    obtain ⟨r, hr⟩ : ∃ r, R[i]? = some r := ⟨R[i]'(by simpa [rowsV] using hi), List.getElem?_eq_getElem _⟩
    have hrow : ((rowsV R)[i]?.getD []) = [.agg #[.string ⟨r.1.1.toArray⟩, .string ⟨r.1.2.toArray⟩], .int .i64 r.2] := by simp [rowsV, hr]
    have hvr := hv r (List.mem_of_getElem? hr)
    have hdrop : R.drop i = r :: R.drop (i + 1) := List.drop_eq_getElem?_toList_append.trans (by rw [hr]; rfl)
    rw [hrow]
    simp only [ZB, insVc, loadNK, storeNK, setMany, isPlain, Value.cells, ne_eq, Nat.reduceEqDiff, Nat.reduceAdd, Nat.reduceLeDiff, Zak, Zai, Zaj, Zal, Zam, Zan, Zas, Zaq, Zar, Zbi, updMany]
    refine ⟨((Mod.refl _ _).alloc _).set (.inl (Nat.le_refl _)), ?_⟩
    rintro c hmc ⟨_, hJc, hKc⟩
    have hxa : ¬ X a.heap.size := fun x => by have := (hX _ x).2; omega
    have pC := hmc.keep (get_set_same _ _ (.cells #[.string ⟨r.1.1.toArray⟩, .string ⟨r.1.2.toArray⟩] 29 (0, 0)) (by rw [size_alloc]; omega)) hxa
    have bC := hKc.at b4 (Nat.le_refl _)
    have nC := hKc.at n4 (by omega)
    obtain ⟨hAc, hgc, _, _, _, _, e4c⟩ := hF _ _ _ hJc
    have l1 := lt_of_get pC
    have l2 := lt_of_get bC
    have l3 := lt_of_get nC
    have l4 := lt_of_get e4c
    have f3 := Nat.ne_of_lt l3
    simp only [ZB, insVc, storeNK, setMany, iopK, iopV, isPlain, Value.cells, ne_eq, Nat.reduceEqDiff, Nat.reduceAdd, Nat.reduceLeDiff, reduceCtorEq, Zak, Zai, Zaj, Zal, Zam, Zan, Zac, Zaf, Zba, Zb, Zaw, Zav, Zay, Zax, Zas, Zaq, Zar, get_alloc, Nat.reduceAdd, Zbj, Nat.reduceEqDiff, Zbh, nC, f3]
    have hpre : ∃ pre : List (Qu × Int), pre.length = i ∧ thingsQ R = pre ++ thingsQ (r :: R.drop (i + 1)) := ⟨pre, p1, by rw [p2, hdrop]⟩
    have hyieldAny : ∀ (u : World) (o : Qu × Int) (tl : List (Qu × Int)) (G : Value → World → Prop), thingsQ (r :: R.drop (i + 1)) = o :: tl → Mod (fun _ => False) c u →
        (∀ d v, c.heap.size ≤ d.heap.size → (∀ k, XO X k → d.heap[k]? = u.heap[k]?) → (v = .bool true ∧ J (i + 1) (XO X) d) ∨ (v = .bool false ∧ Jx (XO X) d) → G v d) → callvK Proofs.Tryz.prog G u [o.1.val, .int .i64 o.2] y := by
      intro u o tl G ho hmu hG
      obtain ⟨pre, h1, h2⟩ := hpre
      have hi' : (quV (thingsQ R))[i]? = some [o.1.val, .int .i64 o.2] := by rw [h2, ho]; simp [quV, h1]
      have hlt : i < (quV (thingsQ R)).length := by
        rcases Nat.lt_or_ge i (quV (thingsQ R)).length with h | h
        · exact h
        · rw [List.getElem?_eq_none h] at hi'; cases hi'
      have hmus := hmu.size
      have hbd : ∀ k, XO X k → w.heap.size ≤ k ∧ k < u.heap.size := by
        have := hKc.1
        have := hmc.size
        rintro k (hk | hk)
        · simp only [size_set, size_alloc] at this; omega
        · have := hX k hk; simp only [size_set, size_alloc] at *; omega
      have hJu := hS i _ (XO X) c u hJc (hmu.mono fun _ _ x => x.elim) (fun k hk => .inl hk)
      have hyy := hy i hlt (XO X) u hJu hbd (by have := hKc.1; omega)
      rw [hi'] at hyy
      refine callvK_mono hyy ?_
      rintro v d ⟨⟨k1, k2⟩, k3⟩
      exact hG d v (by omega) k2 k3
    have hkeepX : ∀ (u d : World), Mod (fun _ => False) c u → (∀ k, XO X k → d.heap[k]? = u.heap[k]?) → ∀ k, X k → d.heap[k]? = c.heap[k]? := by
      intro u d hmu hd k hk
      have := (hX k hk).2
      have := hmc.size
      simp only [size_set, size_alloc] at this
      rw [hd k (.inr hk), hmu.get k (by omega) id]
    have hkeepK : ∀ (u d : World), Mod (fun _ => False) c u → c.heap.size ≤ d.heap.size → (∀ k, XO X k → d.heap[k]? = u.heap[k]?) → Kept w.heap.size w4 d := by
      intro u d hmu hs hd
      have := hKc.1
      refine ⟨by omega, fun k h1 h2 => ?_⟩
      rw [hd k (.inl ⟨h1, by omega⟩), hmu.get k (by omega) id, hKc.2 k h1 h2]
    have hbad : ∀ (o : Qu × Int), thingsQ (r :: R.drop (i + 1)) = [o] → ∀ (u d : World) (v : Value), Mod (fun _ => False) c u → c.heap.size ≤ d.heap.size → (∀ k, XO X k → d.heap[k]? = u.heap[k]?) → (v = .bool true ∧ J (i + 1) (XO X) d) ∨ (v = .bool false ∧ Jx (XO X) d) →
        (c.heap.size ≤ d.heap.size ∧ ∀ k, X k → d.heap[k]? = c.heap[k]?) ∧ (False ∧ (∃ pre : List (Qu × Int), pre.length = i + 1 ∧ thingsQ R = pre ++ thingsQ (R.drop (i + 1))) ∧ J (i + 1) (XO X) d ∧ Kept w.heap.size w4 d ∨
          ∃ cc, (cc = Code.ret ∨ ∃ id, cc = Code.exit id ∧ False) ∧ cc = Code.ret ∧ (J (quV (thingsQ R)).length (XO X) d ∨ Jx (XO X) d)) := by
      intro o ho u d v hmu k1 k2 k3
      refine ⟨⟨k1, hkeepX u d hmu k2⟩, .inr ⟨.ret, .inl rfl, rfl, ?_⟩⟩
      obtain ⟨pre, h1, h2⟩ := hpre
      have hlen : (quV (thingsQ R)).length = i + 1 := by rw [h2, ho]; simp [quV, h1]
      rw [hlen]
      exact k3.imp (·.2) (·.2)
    refine condP_gen ?_
    intro w5 hw5
    have hm5 : Mod (fun _ => False) c w5 := by rw [hw5]; exact (((Mod.refl _ _).alloc _).alloc _).set (.inl (by omega))
    have t5 : w5.heap[c.heap.size]? = some (.cells th0.cells.toArray 98 (0, 0)) := by rw [hw5]; simp only [Nat.reduceAdd, and_true, Zac, Zaf, size_alloc, Zao, get_alloc, get_set, size_alloc, Zat, Nat.reduceAdd, Zbl, Zbh]; rfl
    have x5 : w5.heap[c.heap.size + 1]? = some (.cells q0.cells.toArray 33 (0, 0)) := by rw [hw5]; simp only [Nat.reduceAdd, size_alloc, Zaz, Zao, size_alloc, Zat, Nat.reduceAdd]; rfl
    clear hw5
    have p5 := hm5.keep pC id
    have b5 := hm5.keep bC id
    have n5 := hm5.keep nC id
    have e5 := hm5.keep e4c id
    by_cases he : r.2 = 0
    · rw [he]
      simp only [ZB, insVc, load1K, faddrK, ne_eq, Nat.reduceEqDiff, Zad, Zae, Za, Zah, Int.reduceBEq, p5]
      refine parse_c _ w5 _ ?_
      intro w6 hm6
      have t6 := hm6.keep t5 id
      have p6 := hm6.keep p5 id
      have b6 := hm6.keep b5 id
      have n6 := hm6.keep n5 id
      have e6 := hm6.keep e5 id
      have x6 := hm6.keep x5 id
      have hm56 := hm5.trans hm6
      simp only [ZB, insVc, storeNK, extK, ne_eq, Nat.reduceEqDiff, Za, Zag, Zah, Th.val]
      have hth0 : th0.cells.toArray = #[.string ⟨#[]⟩, .string ⟨#[]⟩, .int .u64 0, .int .u64 0, .string ⟨#[]⟩, .int .i64 0, .string ⟨#[]⟩, .string ⟨#[]⟩, .string ⟨#[]⟩] := rfl
      rw [hth0] at t6
      have hqz : q0.cells.toArray = zq := rfl
      rw [hqz] at x6
      have hq1 : ∀ (q : Qu × Int), qgot r = q → r.2 = 0 → True := fun _ _ _ => trivial
      have hgot : qgot r = if (parseR ⟨r.1.1.toArray⟩).2 ≠ 0 then (q0, (parseR ⟨r.1.1.toArray⟩).2) else qread (parseR ⟨r.1.1.toArray⟩).1.queue ⟨r.1.2.toArray⟩ := by unfold qgot; rw [if_neg (by simpa using he)]
      revert hgot
      generalize parseR ⟨r.1.1.toArray⟩ = T
      intro hgot
      simp only [ZB, insVc, setMany, iopK, iopV, isPlain, Nat.reduceAdd, Nat.reduceLeDiff, reduceCtorEq, Zak, Zai, Zaj, Zal, Zam, Zan, Zas, Zaq, Zar, Th.cells, t6]
      refine condP_gen ?_
      intro w7 hw7
      have hm7' : Mod (fun k => k = c.heap.size) w6 w7 := by rw [hw7]; exact (Mod.refl _ _).set (.inr rfl)
      have hm7 : Mod (fun _ => False) c w7 := by rw [hw7]; exact hm56.set (.inl (Nat.le_refl _))
      have t7 : w7.heap[c.heap.size]? = some (.cells T.1.cells.toArray 98 (0, 0)) := by rw [hw7]; exact get_set_same _ _ _ (lt_of_get t6)
      have p7 := hm7'.keep p6 (by omega)
      have b7 := hm7'.keep b6 (by omega)
      have n7 := hm7'.keep n6 (by omega)
      have e7 := hm7'.keep e6 (by omega)
      have x7 := hm7'.keep x6 (by omega)
      clear hw7
      by_cases hT : T.2 = 0
      · rw [if_neg (by simpa using hT)] at hgot
        rw [hT]
        simp only [Th.cells] at t7
        simp only [ZB, insVc, load1K, loadNK, faddrK, callvK, ne_eq, Nat.reduceEqDiff, Nat.reduceAdd, Nat.reduceLeDiff, Zab, Zad, Zae, Za, Zag, Zah, Zak, Zai, Zaj, Zaa, Zbr, Int.reduceBEq, Zba, Zb, Zaw, Zav, Zay, Zax, e7, t7, p7]
        refine qgot58_c T.1 _ w7 _ (by simpa [ByteArray.size] using hvr) ?_
        intro w8 hm8
        have hm78 := hm7.trans hm8
        have x8 := hm8.keep x7 id
        have b8 := hm8.keep b7 id
        have n8 := hm8.keep n7 id
        revert hgot
        generalize qread T.1.queue ⟨r.1.2.toArray⟩ = Z
        intro hgot
        simp only [ZB, insVc, storeNK, setMany, iopK, iopV, extK, isPlain, ne_eq, Nat.reduceEqDiff, Nat.reduceAdd, Nat.reduceLeDiff, reduceCtorEq, Za, Zag, Zah, Zak, Zai, Zaj, Zal, Zam, Zan, Zas, Zaq, Zar, Qu.val, Qu.cells, x8]
        refine condP_gen ?_
        intro w9 hw9
        have hm9' : Mod (fun k => k = c.heap.size + 1) w8 w9 := by rw [hw9]; exact (Mod.refl _ _).set (.inr rfl)
        have hm9 : Mod (fun _ => False) c w9 := by rw [hw9]; exact hm78.set (.inl (by omega))
        have x9 : w9.heap[c.heap.size + 1]? = some (.cells Z.1.cells.toArray 33 (0, 0)) := by rw [hw9]; exact get_set_same _ _ _ (lt_of_get x8)
        have b9 := hm9'.keep b8 (by omega)
        have n9 := hm9'.keep n8 (by omega)
        clear hw9
        by_cases hZ : Z.2 = 0
        · have hne' : (Z.2 != 0) = false := by simpa using hZ
          simp only [Qu.cells] at x9
          simp only [ZB, insVc, load1K, loadNK, callvK, ne_eq, Nat.reduceEqDiff, Nat.reduceAdd, Nat.reduceLeDiff, Zad, Zae, Za, Zah, Zak, Zai, Zaj, Zba, Zb, Zaw, Zav, Zay, Zax, hne', b9, x9]
          refine hyieldAny w9 (Z.1, 0) (thingsQ (R.drop (i + 1))) _ (by simp [thingsQ, hgot, hZ]) hm9 ?_
          rintro d v k1 k2 k3
          rcases k3 with ⟨rfl, k3⟩ | ⟨rfl, k3⟩
          · simp only [ZB, insVc, notK, reduceCtorEq]
            refine ⟨⟨k1, hkeepX w9 d hm9 k2⟩, .inl ⟨?_, k3, hkeepK w9 d hm9 k1 k2⟩⟩
            obtain ⟨pre, h1, h2⟩ := hpre
            exact ⟨pre ++ [(Z.1, 0)], by simp [h1], by rw [h2]; simp [thingsQ, hgot, hZ]⟩
          · simp only [ZB, insVc, notK, reduceCtorEq]
            exact ⟨⟨k1, hkeepX w9 d hm9 k2⟩, .inr ⟨.ret, .inl rfl, rfl, .inr k3⟩⟩
        · have hne : (Z.2 == 0) = false := by simpa using hZ
          have hne' : (Z.2 != 0) = true := by simpa using hZ
          simp only [ZB, insVc, load1K, loadNK, callvK, ne_eq, Nat.reduceEqDiff, Nat.reduceAdd, Nat.reduceLeDiff, Zad, Zae, Za, Zah, Zak, Zai, Zaj, Zba, Zb, Zaw, Zav, Zay, Zax, hne', b9, n9]
          refine hyieldAny w9 (q0, Z.2) [] _ (by simp [thingsQ, hgot, hZ]) hm9 ?_
          rintro d v k1 k2 k3
          simp only [ZB, reduceCtorEq]
          exact hbad (q0, Z.2) (by simp [thingsQ, hgot, hZ]) w9 d v hm9 k1 k2 k3
      · rw [if_pos hT] at hgot
        have hne : (T.2 == 0) = false := by simpa using hT
        have hne' : (T.2 != 0) = true := by simpa using hT
        simp only [ZB, insVc, load1K, loadNK, iopK, iopV, callvK, ne_eq, Nat.reduceEqDiff, Nat.reduceAdd, Nat.reduceLeDiff, reduceCtorEq, Zad, Zae, Za, Zah, Zak, Zai, Zaj, Zba, Zb, Zaw, Zav, Zay, Zax, hne, hne', b7, n7]
        refine hyieldAny w7 (q0, T.2) [] _ (by simp [thingsQ, hgot, hT]) hm7 ?_
        rintro d v k1 k2 k3
        simp only [ZB, reduceCtorEq]
        exact hbad (q0, T.2) (by simp [thingsQ, hgot, hT]) w7 d v hm7 k1 k2 k3
    · have hne : (r.2 == 0) = false := by simpa using he
      have hne' : (r.2 != 0) = true := by simpa using he
      simp only [ZB, insVc, load1K, loadNK, iopK, iopV, callvK, ne_eq, Nat.reduceEqDiff, Nat.reduceAdd, Nat.reduceLeDiff, reduceCtorEq, Zad, Zae, Za, Zah, Zak, Zai, Zaj, Zba, Zb, Zaw, Zav, Zay, Zax, hne, hne', b5, n5]
      refine hyieldAny w5 (q0, r.2) [] _ (by simp [thingsQ, qgot, he]) hm5 ?_
      rintro d v k1 k2 k3
      simp only [ZB, reduceCtorEq]
      exact hbad (q0, r.2) (by simp [thingsQ, qgot, he]) w5 d v hm5 k1 k2 k3
  · rintro X u ⟨⟨pre, h1, h2⟩, h3, h4⟩ ⟨a1, a2, a3⟩
    simp only [ZB, endK, resK, markO, a1]
    have hfin' := fun h => hfin u X (Vc.set u w4.heap.size (.deferred none)) a2 a3 h ((Mod.refl _ _).set (.inr rfl))
    simp only [size_set] at hfin'
    refine hfin' (.inl ?_)
    have hlen : (rowsV R).length = R.length := by simp [rowsV]
    rw [hlen, List.drop_length] at h2
    have : (rowsV R).length = (quV (thingsQ R)).length := by rw [h2, hlen]; simp [quV, thingsQ, h1, hlen]
    rw [← this]; exact h3
  · rintro c X u ⟨rfl, h⟩ ⟨a1, a2, a3⟩
    have hfin' := hfin u X (Vc.set u w4.heap.size (.deferred none)) a2 a3 h ((Mod.refl _ _).set (.inr rfl))
    simp only [size_set] at hfin'
    simp only [ZB, exitOf, endK, resK, markO, a1]
    exact hfin'

/-- registry.Queues: an iterator over what Range hands. -/
theorem allQueues_c {σ : Type} (St : Sto σ) (s : σ) (hpure : PureRng St s) (m : Int) (w : World) (K : Value → World → Prop) (hv : ∀ r ∈ St.under s ⟨#[113]⟩ [], r.1.2.length < 2 ^ 60)
    (h : ∀ w' gf cap, Mod (fun _ => False) w w' → IterP Proofs.Tryz.prog gf cap (quV (thingsQ (St.under s ⟨#[113]⟩ []))) (fun u => St.At s u ∧ Gl m u ∧ Kept w.heap.size w' u) → K (.func (.func gf) #[] cap.toArray) w') :
    Ok Proofs.Tryz.prog 15 #[.iface St.t St.v] w K := by
  refine F15.enter (args := [.iface St.t St.v]) (by simp) ?_
  unfold c15 r15
  simp only [ZB, insVc, ne_eq, reduceCtorEq, Zab, Zad, Zae, Za]
  refine F57.enter (args := [_, _, _, _]) (by simp) ?_
  unfold c57 r57
  simp only [ZB, endK, resK, packed, insVc, Value.cells, ne_eq, Nat.reduceEqDiff, Nat.reduceAdd, Zab, Zad, Zae, Za, Zag, Zaa, Zat, Nat.reduceAdd, Nat.reduceEqDiff]
  refine h _ _ [ptr (w.heap.size + 2), ptr (w.heap.size + 3), ptr w.heap.size, ptr (w.heap.size + 1)] (((((Mod.refl _ _).alloc _).alloc _).alloc _).alloc _) (iterP_mono (things1_c St s hpure ⟨#[113]⟩ [] (.slice none 0 0) _ _ _ _ m (by simp) (by simp [ByteArray.size]) (fun _ h => by cases h) hv) ?_)
  rintro u ⟨h1, h2, h3⟩
  refine ⟨h1, h2, .inl ⟨rfl, _, rfl⟩, h3.at ?_ (by omega), h3.at ?_ (by omega), h3.at ?_ (by omega), h3.at ?_ (by omega)⟩ <;> simp only [Nat.reduceEqDiff, Nat.reduceAdd, reduceCtorEq, Zac, Zaf, size_alloc, get_alloc, size_alloc, Zat, Nat.reduceAdd, Zbm, Zbj, Zbl, Nat.reduceEqDiff, Zbh]

theorem pure_shelf (sb mb : Nat) (h0 : 0 ≠ mb) (s : Nat × M) (hs : s.2.length * 16 ≤ 140737488355328) : PureRng (shelf sb mb h0) s :=
  fun a b w G h hG => ⟨37, ptr sb, by kernel_rfl, rng_c sb mb s.1 s.2 a b w G h hs hG⟩

end Go.Oct
