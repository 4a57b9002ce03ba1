import Derived.Test.YtbkddpckkgbbmaaGreatDoorVcK
import Derived.Deep.AppendSrc
import Derived.Laws.OwnMore
import Derived.Laws.IdiomStrings
namespace Go.Vc
open Go

variable {P : Program} {n : Nat} {go : Value → World → Prop} {ρ : Env} {ds : List Deferred} {w : World} {o : Oper}

theorem ok_of_calls {f : FuncId} {args : Array Value} {R : Ending → World → Prop} {K : Value → World → Prop} (hf : okF P f = true) (h : Calls P f args w R) (hk : ∀ e w', R e w' → ∃ v, e = .returned v ∧ K v w') : Ok P f args w K :=
  ⟨hf, CallsIn.mono (callsIn_wide.2 h) hk⟩

theorem Mod.keep {S : Nat → Prop} {w w' : World} (h : Mod S w w') {b : Nat} {o : Obj} (hb : w.heap[b]? = some o) (hs : ¬ S b) : w'.heap[b]? = some o := (h.get b (lt_of_get hb) hs).trans hb

/-- two operands of a built-in. -/
theorem rawK_append {s x : Operand} {t tx : TypeId} {v : Value} {w' : World} (ho : o.op = .call { callee := .builtin .append, args := #[s, x], argTypes := #[t, tx] })
    (hs : inB n s = true) (hx : inB n x = true) (hr : (Builtin.append_ #[t, tx] o.type #[ev ρ s, ev ρ x]).run P w = .ok v w') (h : go v w') : RawK P go ρ ds n o w := by
  unfold RawK
  simp only [execOp, ho, resolve, Sem.run_bind, pure, Sem.run, Result.andThen, invoke, builtin]
  have e : (#[s, x] : Array Operand).map (mkA n ρ ds).eval = #[ev ρ s, ev ρ x] := by simp [mkA_eval n ρ ds s hs, mkA_eval n ρ ds x hx]
  rw [e, hr]
  exact h

theorem rawK_max {s x : Operand} {t tx : TypeId} {k k' : IntKind} {a b : Int} (ho : o.op = .call { callee := .builtin .max, args := #[s, x], argTypes := #[t, tx] })
    (hs : inB n s = true) (hx : inB n x = true) (ha : ev ρ s = .int k a) (hb : ev ρ x = .int k' b) (h : go (.int k (max a b)) w) : RawK P go ρ ds n o w := by
  unfold RawK
  simp only [execOp, ho, resolve, Sem.run_bind, pure, Sem.run, Result.andThen, invoke, builtin]
  have e : (#[s, x] : Array Operand).map (mkA n ρ ds).eval = #[.int k a, .int k' b] := by simp [mkA_eval n ρ ds s hs, mkA_eval n ρ ds x hx, ha, hb]
  rw [e]
  have e2 : (if b > a then b else a) = max a b := by omega
  simp only [Builtin.max_, List.foldlM_cons, List.foldlM_nil, Sem.run_bind, Builtin.max2, pure, Sem.run, Result.andThen, e2]
  exact h

theorem rawK_conv {x : Operand} {src dst : TypeId} {v : Value} (ho : o.op = .convert src dst x) (hx : inB n x = true) (hr : (convert src dst (ev ρ x)).run P w = .ok v w) (h : go v w) : RawK P go ρ ds n o w := by
  unfold RawK
  simp only [execOp, ho, Sem.run_bind, mkA_eval n ρ ds x hx, hr, Result.andThen, pure, Sem.run]
  exact h

/-- append onto a row of one's own. -/
theorem run_append_mine (base : Nat) (t tx ty e : TypeId) (i : TypeInfo) (z : Value) (size : Nat) (ht : P.underlying t = some (.slice e)) (hi : P.info? e = some i) (hz : i.zero = some z)
    (hsize : i.size = size) (hzs : z.cells.size = size) (hsz : 0 < size)
    (v : Value) (n : Nat) (xs : List Value) (hown : w.ownsRow base e size v n xs) (x : Value) (m : Nat) (news : List Value) (hsrc : Src P size tx x m news w)
    (h63 : n + m ≤ maxLen) (hbytes : (n + m) * i.bytes ≤ 140737488355328) (hbase : base ≤ w.heap.size) :
    ∃ v' w', (Builtin.append_ #[t, tx] ty #[v, x]).run P w = .ok v' w' ∧ w'.ownsRow base e size v' (n + m) (xs ++ news) ∧ Mod (fun k => v.ownBlock = some k) w w' ∧
      (v'.ownBlock = v.ownBlock ∨ v'.ownBlock = some w.heap.size) := by
  subst hsize
  have hl := hsrc.newsLen
  have hsmall : n + m ≤ 9223372036854775807 := by simp only [maxLen] at h63; omega
  have hlen : (xs ++ news).length = (n + m) * i.size := by rw [List.length_append, hown.1, hl, Nat.add_mul]
  have grown : ∀ (old : Nat), old < n + m → ∀ (S : Nat → Prop),
      (w.drew.alloc (.cells ((xs ++ news).toArray ++ Builtin.zeroCells z.cells (grownCap w (n + m) old e - (n + m))) e)).ownsRow base e i.size
        (.slice (some ⟨w.heap.size, 0, none⟩) (n + m) (grownCap w (n + m) old e)) (n + m) (xs ++ news) ∧
      Mod S w (w.drew.alloc (.cells ((xs ++ news).toArray ++ Builtin.zeroCells z.cells (grownCap w (n + m) old e - (n + m))) e)) := by
    intro old ho S
    have hge := grownCap_ge w (n + m) old e
    have hcm : grownCap w (n + m) old e ≤ maxLen := grownCap_le_maxLen w (n + m) old e h63
    refine ⟨⟨hlen, .inr ⟨w.heap.size, _, _, rfl, hbase, heap_alloc_new w.drew _, hge, hcm, ?_, ?_⟩⟩, (Mod.refl S w).drew.alloc _⟩
    · simp only [Array.size_append, List.size_toArray, size_zeroCells, hzs, hlen, ← Nat.add_mul]
      congr 1
      omega
    · simp only [Array.toList_append]
      rw [← hlen]
      exact List.take_left
  rcases hown.2 with ⟨rfl, rfl⟩ | ⟨g, cap, cur, rfl, hbg, hg, hnc, hcm, hcs, htake⟩
  · have hx : xs = [] := List.eq_nil_of_length_eq_zero (by simpa using hown.1)
    subst hx
    by_cases hm : m = 0
    · subst hm
      have hn : news = [] := List.eq_nil_of_length_eq_zero (by simpa using hl)
      subst hn
      refine ⟨.slice none 0 0, w, ?_, World.ownsRow_nil w base e i.size, Mod.refl _ w, .inl rfl⟩
      have h1 := hsrc.cells
      have h2 := hsrc.len w
      rcases hsrc.kind with ⟨e', hk⟩ | hk <;> simp [Builtin.append_, run_underlying ht, run_underlying hk, sizeOf, typeInfo, hi, h1, hsrc.len, storeCells, loadCells, loadCellsFrom]
    · have hr := run_append_grow_src (P := P) w t tx ty e i z ht hi hz none 0 0 [] (run_firstCells_none w.drew i.size 0 0 0) x m news hsrc (by omega) (by omega) (growslice_fits (by omega) hbytes)
      have hgr := grown 0 (by omega) (fun k => (Value.slice none 0 0).ownBlock = some k)
      simp only [List.nil_append] at hgr hr ⊢
      exact ⟨_, _, hr, hgr.1, hgr.2, .inr rfl⟩
  · by_cases hroom : n + m ≤ cap
    · have hfit : n * i.size + news.length ≤ cur.size := by rw [hl, hcs, ← Nat.add_mul]; exact Nat.mul_le_mul_right _ hroom
      have hst := run_storeCells_at P g (n * i.size) e news 0 cur w hg (by simpa using hfit) hsrc.one
      simp only [Nat.add_zero] at hst
      refine ⟨.slice (some ⟨g, 0, none⟩) (n + m) cap, w.setRow g (cur.toList.take (n * i.size) ++ news ++ cur.toList.drop (n * i.size + news.length)).toArray, ?_, ⟨hlen, .inr ⟨g, cap, _, rfl, hbg, setRow_heap w g cur _ e _ hg, hroom, hcm, ?_, ?_⟩⟩, ⟨rfl, rfl, rfl, by simp, fun k _ hk => setRow_other w g k _ (fun e => hk (by simp [Value.ownBlock, e]))⟩, .inl rfl⟩
      · rcases hsrc.kind with ⟨e', hk⟩ | hk <;> simp [Builtin.append_, run_underlying ht, run_underlying hk, sizeOf, typeInfo, hi, hsrc.len, hroom, hsrc.cells, Addr.add_lit, hst]
      · simp only [List.size_toArray, List.length_append, List.length_take, List.length_drop, Array.length_toList]
        omega
      · rw [htake, ← hlen]
        exact List.take_left
    · have holds : ∀ j u, xs[j]? = some u → w.drew.cell? ((⟨g, 0, none⟩ : Addr).add j) = some u := by
        intro j u hj; have := hown.cells (g := g) rfl j u hj; simpa using this
      have hr := run_append_grow_src (P := P) w t tx ty e i z ht hi hz (some ⟨g, 0, none⟩) n cap xs (run_firstCells_some (P := P) w.drew i.size n ⟨g, 0, none⟩ n cap xs hown.1 holds) x m news hsrc (by omega) (by omega) (growslice_fits (by omega) hbytes)
      have hgr := grown cap (by omega) (fun k => (Value.slice (some ⟨g, 0, none⟩) n cap).ownBlock = some k)
      exact ⟨_, _, hr, hgr.1, hgr.2, .inr rfl⟩

theorem vc_loop {ro : Option Nat} {b : CC} {Q : QT} (I : Nat → Env → List Deferred → World → Prop) (m : Nat) (h0 : I m ρ ds w)
    (hstep : ∀ m ρ ds w, I m ρ ds w → vc P ro n b (thenQ (fun ρ' ds' w' => ∃ m', m' < m ∧ I m' ρ' ds' w') Q) ρ ds w) : vc P ro n (.loop b) Q ρ ds w := ⟨I, ⟨m, h0⟩, hstep⟩
theorem loadV_some {v : Value} : loadV go w (some v) = go v w := nr rfl
theorem loadV_none : loadV go w none = False := nr rfl
theorem loadO_cells {i : Nat} {c : Array Value} {t : TypeId} {f : Nat × Nat} : loadO go w i (some (.cells c t f)) = loadV go w c[i]? := nr rfl
theorem loadNO_cells {i m : Nat} {c : Array Value} {t : TypeId} {f : Nat × Nat} : loadNO go w i m (some (.cells c t f)) = (i + m ≤ c.size ∧ go (.agg (c.extract i (i + m))) w) := nr rfl
theorem storeO_cells {b i : Nat} {v : Value} {c : Array Value} {t : TypeId} {f : Nat × Nat} : storeO go w b i v (some (.cells c t f)) = ((i < c.size ∧ (decide (f.1 ≤ i) && decide (i < f.2)) = false ∧ isPlain v = true) ∧ go undef (set w b (.cells (c.setIfInBounds i v) t f))) := nr rfl
theorem storeNO_cells {b i m : Nat} {cs : Array Value} {c : Array Value} {t : TypeId} {f : Nat × Nat} : storeNO go w b i m cs (some (.cells c t f)) = ((cs.size = m ∧ i + m ≤ c.size ∧ f = (0, 0) ∧ cs.all isPlain = true) ∧ go undef (set w b (.cells (setMany c i cs.toList) t f))) := nr rfl
theorem resO_cells {k : Value → Prop} {i : Nat} {c : Array Value} {t : TypeId} {f : Nat × Nat} {v : Value} (h : c[i]? = some v) : resO k i (some (.cells c t f)) = k v := by simp [resO, h]
theorem resNO_cells {k : Value → Prop} {i m : Nat} {c : Array Value} {t : TypeId} {f : Nat × Nat} : resNO k i m (some (.cells c t f)) = (i + m ≤ c.size ∧ k (.agg (c.extract i (i + m)))) := nr rfl
end Go.Vc
