import Derived.Test.YtbkddpckkgbbmaaGreatDoorVcF
namespace Go.Vc
open Go

variable {P : Program} {go : Value → World → Prop} {ρ : Env} {ds : List Deferred} {w : World}

theorem sound_call {f : FuncId} {args : Array Value} {K : Value → World → Prop} (h : Ok P f args w K) : upon P K ((callFunc f args).run P w) := by
  rw [callFunc_ok h.1]; exact h.2

theorem sound_callv {v : Value} {args : List Value} (h : callvK P go w args v) : upon P go ((do let d ← Deferred.ofValue v args.toArray; invoke d.target d.args : Sem Next).run P w) := by
  unfold callvK at h
  split at h
  · rename_i f first cap
    simp only [Deferred.ofValue, Sem.run_bind, pure, Sem.run, Result.andThen, invoke]
    have e : first ++ args.toArray ++ cap = (first.toList ++ args ++ cap.toList).toArray := by apply Array.ext'; simp
    rw [e]; exact sound_call h
  · rename_i l first cap
    simp only [Deferred.ofValue, Sem.run_bind, pure, Sem.run, Result.andThen, invoke]
    have e : first ++ args.toArray = (first.toList ++ args).toArray := by apply Array.ext'; simp
    rw [e]; exact h
  · exact h.elim

theorem sound_inv {v : Value} {name : String} {args : List Value} (h : invK P go w name args v) : upon P go ((callMethod v name args.toArray).run P w) := by
  unfold invK at h
  split at h
  · rename_i t x
    obtain ⟨f, y, hm, hc⟩ := h
    simp only [callMethod, Sem.run_bind, run_program, Result.andThen, hm]
    have e : #[y] ++ args.toArray = (y :: args).toArray := by apply Array.ext'; simp
    rw [e]; exact sound_call hc
  · exact h.elim

theorem ofFields {fields : Array Field} {pl : List (Nat × Nat)} (h : fields.toList.mapM (fun f => (csz P f.type).map fun s => (f.offset, s)) = some pl) :
    (fields.mapM (fun f => do pure (f.offset, ← sizeOf f.type)) : Sem (Array (Nat × Nat))).run P w = .ok pl.toArray w := by
  rw [Array.mapM_eq_mapM_toList]
  generalize fields.toList = l at h
  have key : ∀ (l : List Field) (pl : List (Nat × Nat)), l.mapM (fun f => (csz P f.type).map fun s => (f.offset, s)) = some pl →
      (l.mapM (fun f => do pure (f.offset, ← sizeOf f.type)) : Sem (List (Nat × Nat))).run P w = .ok pl w := by
    intro l
    induction l with
    | nil => intro pl h; simp at h; subst h; simp [pure, Sem.run]
    | cons f l ih =>
      intro pl h
      simp only [List.mapM_cons] at h ⊢
      cases hs : csz P f.type with
      | none => simp [hs] at h
      | some s =>
        cases hl : l.mapM (fun f => (csz P f.type).map fun s => (f.offset, s)) with
        | none => simp [hs, hl] at h
        | some pl' =>
          simp [hs, hl] at h; subst h
          have h2 : ∀ (w : World), (do pure (f.offset, ← sizeOf f.type) : Sem (Nat × Nat)).run P w = .ok (f.offset, s) w := fun w => by rw [Sem.run_bind, run_sizeOf hs]; rfl
          rw [Sem.run_bind, h2]
          simp only [Result.andThen]
          rw [Sem.run_bind, ih pl' hl]; rfl
  change Sem.run P (l.mapM _ >>= (pure ∘ List.toArray)) w = _
  rw [Sem.run_bind, key l pl h]; rfl

theorem sound_fill {ρ : Env} {pl : List (Nat × Nat)} : ∀ (parts : List (Nat × Operand)) (l : List (Nat × Nat × Operand)) (cs out : Array Value), compParts pl parts = some l → fillL ρ l cs = some out →
    Instr.fill (pl.toArray[·]?) cs (parts.map fun (i, x) => (i, ev ρ x)) = some out := by
  intro parts
  induction parts with
  | nil => intro l cs out hl ho; simp [compParts] at hl; subst hl; simp [fillL] at ho; subst ho; simp [Instr.fill]
  | cons p parts ih =>
    intro l cs out hl ho
    obtain ⟨i, x⟩ := p
    simp only [compParts] at hl
    split at hl
    · rename_i off s l' h1 h2
      simp at hl; subst hl
      simp only [fillL] at ho
      split at ho
      · rename_i hc
        simp only [List.map_cons, Instr.fill]
        have e : (pl.toArray[i]? : Option (Nat × Nat)) = some (off, s) := by simpa using h1
        rw [e]
        simp only []
        rw [if_neg (by simp; omega)]
        have := ih l' _ out h2 ho
        rw [← Array.foldl_toList]
        simpa using this
      · contradiction
    · contradiction

theorem zeroRow_length (z : List Value) : ∀ k, (zeroRow z k).length = k * z.length
  | 0 => by simp [zeroRow]
  | k + 1 => by simp [zeroRow, zeroRow_length z k, Nat.add_mul]; omega

theorem zeroRow_get (z : List Value) (hz : 0 < z.length) : ∀ k i, i < k * z.length → (zeroRow z k)[i]? = z[i % z.length]? := by
  intro k
  induction k with
  | zero => intro i h; omega
  | succ k ih =>
    intro i h
    simp only [zeroRow]
    by_cases hi : i < z.length
    · rw [List.getElem?_append_left hi, Nat.mod_eq_of_lt hi]
    · have hi' : z.length ≤ i := Nat.le_of_not_lt hi
      rw [List.getElem?_append_right hi', ih _ (by rw [Nat.add_mul] at h; omega)]
      rw [Nat.mod_eq_sub_mod hi']

theorem zeroRow_eq (z : Array Value) (s : Nat) (hz : z.size = s) (hs : 0 < s) (len : Nat) : ((Array.range (len * s)).map (z[· % z.size]!)) = (zeroRow z.toList len).toArray := by
  subst hz
  apply Array.ext'
  apply List.ext_getElem?
  intro i
  by_cases hi : i < len * z.size
  · have h1 := zeroRow_get z.toList (by simpa using hs) len i (by simpa using hi)
    have hm : i % z.size < z.size := Nat.mod_lt _ hs
    simp only [Array.toList_map, List.getElem?_map, h1]
    simp [hi, hm, Array.getElem!_eq_getD]
  · rw [List.getElem?_eq_none (by simp; omega), List.getElem?_eq_none (by simp [zeroRow_length]; omega)]

theorem sound_fillS {ρ : Env} (s : Nat) : ∀ (parts : List (Nat × Operand)) (cs out : Array Value), fillL ρ (parts.map fun p => (p.1 * s, s, p.2)) cs = some out →
    Instr.fill (fun i => some (i * s, s)) cs (parts.map fun (i, x) => (i, ev ρ x)) = some out := by
  intro parts
  induction parts with
  | nil => intro cs out ho; simp [fillL] at ho; subst ho; simp [Instr.fill]
  | cons p parts ih =>
    intro cs out ho
    obtain ⟨i, x⟩ := p
    simp only [List.map_cons, fillL] at ho
    split at ho
    · rename_i hc
      simp only [List.map_cons, Instr.fill]
      rw [if_neg (by simp; omega)]
      have := ih _ out ho
      rw [← Array.foldl_toList]
      simpa using this
    · contradiction

theorem sound_ins (n : Nat) (o : Oper) (h : insVc P go ρ ds w (compOp P n o)) : upon P go ((execOp (mkA n ρ ds).eval o).run P w) := by
  unfold compOp at h
  split at h
  · exact h
  · rename_i hb
    have hb' : o.op.operands.all (inB n) = true := by rw [← Array.all_toList]; simpa using hb
    have hE := evals (ρ := ρ) (ds := ds) hb'
    split at h
    case h_1 x heq => simp only [heq, Op.operands] at hE; simp only [execOp, heq, hE x (by simp)]; exact h
    case h_2 x heq => simp only [heq, Op.operands] at hE; simp only [execOp, heq, hE x (by simp)]; exact h
    case h_3 c a b heq =>
      simp only [heq, Op.operands] at hE
      simp only [execOp, heq, hE c (by simp), hE a (by simp), hE b (by simp)]
      simp only [insVc, pickK] at h
      split at h
      · rename_i t ht
        simp only [ht, asBool, Sem.run_bind, pure, Sem.run, Result.andThen, upon]; exact h
      · exact h.elim
    case h_4 t heq =>
      split at h
      · rename_i v hv
        simp only [execOp, heq]
        refine upon_v ⟨_, _, ?_, h⟩
        simp [Instr.alloc, Sem.run_bind, run_zeroValue hv, Result.andThen, newVar, newRow, run_newObj, pure, Sem.run]
      · exact h
    case h_5 t x heq =>
      simp only [heq, Op.operands] at hE
      simp only [execOp, heq, hE x (by simp)]
      refine upon_v ⟨_, _, ?_, h⟩
      simp [Instr.box, Sem.run_bind, Result.andThen, newVar, newRow, run_newObj, pure, Sem.run]
    case h_6 t x heq =>
      simp only [heq, Op.operands] at hE
      split at h
      · rename_i s a hs ha
        simp only [execOp, heq, hE x (by simp)]
        cases a with
        | true =>
          simp only [if_true, insVc, loadNK] at h
          split at h
          · rename_i hx
            rw [hx]; obtain ⟨v, e, k⟩ := run_loadAtN ha hs h; exact upon_v ⟨v, w, e, k⟩
          · exact h.elim
        | false =>
          simp only [Bool.false_eq_true, if_false, insVc, load1K] at h
          split at h
          · rename_i hx
            rw [hx]; obtain ⟨v, e, k⟩ := run_loadAt1 ha h; exact upon_v ⟨v, w, e, k⟩
          · exact h.elim
      · exact h
    case h_7 t x v heq =>
      simp only [heq, Op.operands] at hE
      split at h
      · rename_i s a hs ha
        cases a with
        | true =>
          simp only [execOp, heq, hE x (by simp), hE v (by simp)]
          simp only [if_true, insVc, storeNK] at h
          split at h
          · rename_i hx hv
            rw [hx, hv]; obtain ⟨w', e, k⟩ := run_storeAtN hs h; exact upon_u ⟨w', e, k⟩
          · exact h.elim
        | false =>
          simp only [Bool.false_eq_true, if_false] at h
          split at h
          · rename_i hs1; subst hs1
            simp only [execOp, heq, hE x (by simp), hE v (by simp)]
            simp only [insVc, storeK] at h
            split at h
            · rename_i hx
              rw [hx]; obtain ⟨w', e, k⟩ := run_storeAt1 hs h; exact upon_u ⟨w', e, k⟩
            · exact h.elim
          · exact h
      · exact h
    case h_8 x heq =>
      simp only [heq, Op.operands] at hE
      simp only [execOp, heq, hE x (by simp)]
      simp only [insVc, nilK] at h
      split at h
      · rename_i hx; rw [hx]; exact h
      · rename_i hx; rw [hx]; exact h
      · rename_i hx; rw [hx]; exact h
      · rename_i nm first cap hx
        obtain ⟨h1, h2⟩ := h
        unfold nilM at h1
        split at h1
        · rename_i t v hf
          rw [hx]
          simp only [hf, Sem.run_bind, run_program, Result.andThen, h1 w]
          exact h2
        · exact h1.elim
      · exact h.elim
    case h_9 op t x y yt heq =>
      simp only [heq, Op.operands] at hE
      rcases sound_compBin (hE x (by simp)) (hE y (by simp)) h with h' | ⟨v, w', e, k⟩
      · rw [h'] at h; exact h
      · simp only [execOp, heq]; exact upon_v ⟨v, w', e, k⟩
    case h_10 t x heq =>
      simp only [heq, Op.operands] at hE
      simp only [execOp, heq, hE x (by simp)]
      simp only [insVc, notK] at h
      split at h
      · rename_i b hx; rw [hx]; exact upon_v ⟨_, w, rfl, h⟩
      · exact h.elim
    case h_11 s d x heq =>
      simp only [heq, Op.operands] at hE
      split at h
      · rename_i k k' hs hd
        simp only [execOp, heq, hE x (by simp)]
        simp only [insVc, convK] at h
        split at h
        · rename_i m hx; rw [hx]
          refine upon_v ⟨_, w, ?_, h⟩
          simp only [convert, Sem.run_bind, run_underlying hs, run_underlying hd, Result.andThen]; rfl
        · exact h.elim
      · rename_i hs hd
        simp only [execOp, heq, hE x (by simp)]
        simp only [insVc, sameK] at h
        split at h
        · rename_i m hx; rw [hx]
          refine upon_v ⟨_, w, ?_, h⟩
          simp only [convert, Sem.run_bind, run_underlying hs, run_underlying hd, Result.andThen]; rfl
        · exact h.elim
      · exact h
    case h_12 t x heq =>
      simp only [heq, Op.operands] at hE
      split at h
      · exact h
      · exact h
      · rename_i d hn hd
        cases hu : P.underlying t with
        | none => exact absurd hu (by simpa using hd)
        | some dd =>
          simp only [execOp, heq, hE x (by simp)]
          refine upon_v ⟨_, w, ?_, h⟩
          simp only [Instr.makeInterface, Sem.run_bind, run_underlying hu, Result.andThen]
          cases dd <;> first | rfl | (exact absurd hu (hn _))
    case h_13 fn first cap heq =>
      simp only [heq, Op.operands] at hE
      simp only [execOp, heq]
      refine upon_v ⟨_, w, ?_, h⟩
      rw [map_evals (fun x hx => hE x (by simp [hx])), map_evals (fun x hx => hE x (by simp [hx]))]; rfl
    case h_14 s x f heq =>
      simp only [heq, Op.operands] at hE
      split at h
      · rename_i fs hs
        split at h
        · rename_i fd hf
          split at h
          · rename_i m hm
            simp only [execOp, heq, hE x (by simp)]
            simp only [insVc, faddrK] at h
            split at h
            · rename_i b o' hx; rw [hx]
              refine upon_v ⟨_, w, ?_, h⟩
              simp [Instr.fieldAt, Sem.run_bind, run_underlying hs, Result.andThen, hf, Instr.sureAddr, fieldPlace, run_sizeOf hm, pure, Sem.run, add_off]
            · exact h.elim
          · exact h
        · exact h
      · exact h
    case h_15 s x f heq =>
      simp only [heq, Op.operands] at hE
      split at h
      · rename_i fs hs
        split at h
        · rename_i fd hf
          split at h
          · rename_i m a hm ha
            simp only [execOp, heq, hE x (by simp)]
            cases a with
            | true =>
              simp only [if_true, insVc, fldNK] at h
              split at h
              · rename_i cs hx; rw [hx]
                refine upon_v ⟨_, w, ?_, h⟩
                simp [Instr.field, Sem.run_bind, run_underlying hs, Result.andThen, hf, asAgg, part, run_isAgg ha, run_sizeOf hm, pure, Sem.run]
              · exact h.elim
            | false =>
              simp only [Bool.false_eq_true, if_false, insVc, fld1K, loadV] at h
              split at h
              · rename_i cs hx
                split at h
                · rename_i v hv; rw [hx]
                  refine upon_v ⟨_, w, ?_, h⟩
                  simp [Instr.field, Sem.run_bind, run_underlying hs, Result.andThen, hf, asAgg, part, run_isAgg ha, hv, pure, Sem.run]
                · exact h.elim
              · exact h.elim
          · exact h
        · exact h
      · exact h
    case h_16 t x i heq =>
      simp only [heq, Op.operands] at hE
      split at h
      · rename_i e hs
        split at h
        · rename_i s hse
          simp only [execOp, heq, hE x (by simp), hE i (by simp)]
          simp only [insVc, iaddrK] at h
          split at h
          · rename_i b o' len cap k j hx hi; rw [hx, hi]
            obtain ⟨hj, h⟩ := h
            refine upon_v ⟨_, w, ?_, h⟩
            simp [Instr.indexAt, Sem.run_bind, run_asIntOf, run_underlying hs, Result.andThen, hj, run_sizeOf hse, pure, Sem.run, add_off]
          · exact h.elim
        · exact h
      · rename_i len e hs
        split at h
        · rename_i s hse
          simp only [execOp, heq, hE x (by simp), hE i (by simp)]
          simp only [insVc, iaddrAK] at h
          split at h
          · rename_i b o' k j hx hi; rw [hx, hi]
            obtain ⟨hj, h⟩ := h
            refine upon_v ⟨_, w, ?_, h⟩
            simp [Instr.indexAt, Instr.sureAddr, Sem.run_bind, run_asIntOf, run_underlying hs, Result.andThen, hj, run_sizeOf hse, pure, Sem.run, add_off]
          · exact h.elim
        · exact h
      · exact h
    case h_17 t x i heq =>
      simp only [heq, Op.operands] at hE
      split at h
      · rename_i hs
        simp only [execOp, heq, hE x (by simp), hE i (by simp)]
        simp only [insVc, sidxK, loadV] at h
        split at h
        · rename_i s k j hx hi; rw [hx, hi]
          obtain ⟨hj, h⟩ := h
          split at h
          · rename_i v hv
            refine upon_v ⟨_, w, ?_, h⟩
            cases hd : s.data[j.toNat]? with
            | none => simp [hd] at hv
            | some b =>
              simp [hd] at hv; subst hv
              have hlt : j.toNat < s.data.size := by
                rcases Nat.lt_or_ge j.toNat s.data.size with x | x
                · exact x
                · rw [Array.getElem?_eq_none x] at hd; cases hd
              have e : s[j.toNat]? = some b := by
                rw [getElem?_pos s j.toNat hlt]
                rw [Array.getElem?_eq_getElem hlt] at hd
                exact hd
              simp [Instr.index, Sem.run_bind, run_asIntOf, run_underlying hs, Result.andThen, hj, e, pure, Sem.run]
          · exact h.elim
        · exact h.elim
      · exact h
    case h_18 x i heq =>
      simp only [heq, Op.operands] at hE
      simp only [execOp, heq, hE x (by simp)]
      obtain ⟨v, w', e, k⟩ := sound_ext h
      exact upon_v ⟨v, w', e, k⟩
    case h_19 f args ats heq =>
      simp only [heq, Op.operands, Call.operands] at hE
      split at h
      · simp only [execOp, heq, resolve, Sem.run_bind, Act.eval, Deferred.ofValue, pure, Sem.run, Result.andThen, invoke]
        have e : (#[] ++ args.map (mkA n ρ ds).eval ++ #[] : Array Value) = (args.toList.map (ev ρ)).toArray := by
          rw [map_evals (fun x hx => hE x (by simp [hx]))]; simp
        have e' : (#[] ++ args.map (fun x => (mkA n ρ ds).eval x) ++ #[] : Array Value) = (args.toList.map (ev ρ)).toArray := e
        rw [e']
        exact sound_call h
      · exact h
    case h_20 x args ats _ heq =>
      simp only [heq, Op.operands, Call.operands] at hE
      have e := map_evals (fun x hx => hE x (by simp [hx])) (xs := args)
      have hx := hE x (by simp)
      have := sound_callv (P := P) (w := w) (v := ev ρ x) h
      simp only [execOp, heq, resolve, hx, e]
      exact this
    case h_21 x name args ats heq =>
      simp only [heq, Op.operands, Call.operands] at hE
      have e := map_evals (fun x hx => hE x (by simp [hx])) (xs := args)
      have hx := hE x (by simp)
      have := sound_inv (P := P) (w := w) (v := ev ρ x) h
      simp only [execOp, heq, resolve, hx, e, Sem.run_bind, pure, Sem.run, Result.andThen, invoke]
      have e2 : (#[ev ρ x] ++ (args.toList.map (ev ρ)).toArray)[0]? = some (ev ρ x) := by simp
      have e3 : (#[ev ρ x] ++ (args.toList.map (ev ρ)).toArray).extract 1 (#[ev ρ x] ++ (args.toList.map (ev ρ)).toArray).size = (args.toList.map (ev ρ)).toArray := by
        apply Array.ext'; simp [List.take_of_length_le]
      simp only [e2, e3]
      exact this
    case h_22 args ats heq =>
      simp only [heq, Op.operands, Call.operands] at hE
      split at h
      · rename_i t x ht hx
        have ea : ats = #[t] := by apply Array.ext'; simpa using ht
        have eb : args = #[x] := by apply Array.ext'; simpa using hx
        subst ea eb
        have hxe := hE x (by simp)
        split at h
        · rename_i hs
          simp only [insVc, lenSK] at h
          split at h
          · rename_i s hsx
            simp [execOp, heq, resolve, Sem.run_bind, pure, Sem.run, Result.andThen, invoke, builtin, Builtin.len_, run_underlying hs, hxe, hsx, goInt, upon]; exact h
          · exact h.elim
        · rename_i e hs
          simp only [insVc, lenLK] at h
          split at h
          · rename_i a l c hsx
            simp [execOp, heq, resolve, Sem.run_bind, pure, Sem.run, Result.andThen, invoke, builtin, Builtin.len_, run_underlying hs, hxe, hsx, goInt, upon]; exact h
          · exact h.elim
        · exact h
      · exact h
    case h_23 t parts heq =>
      simp only [heq, Op.operands] at hE
      split at h
      · rename_i pl z hp hz
        split at h
        · rename_i l hl
          simp only [insVc, buildK] at h
          split at h
          · rename_i cs hcs
            simp only [execOp, heq]
            refine upon_v ⟨_, w, ?_, h⟩
            unfold placesOf at hp
            split at hp
            · rename_i fields hs
              have h1 := ofFields (P := P) (w := w) hp
              have h2 := sound_fill _ _ _ _ hl hcs
              have h3 : (parts.map fun (i, x) => (i, (mkA n ρ ds).eval x)).toList = parts.toList.map fun (i, x) => (i, ev ρ x) := by
                rw [Array.toList_map]
                refine List.map_congr_left fun p hp => ?_
                obtain ⟨i, x⟩ := p
                simp only [hE x (by simp; exact ⟨i, by simpa using hp⟩)]
              simp only [Instr.build, Sem.run_bind, run_zeroValue hz, run_underlying hs, Result.andThen, h1]
              rw [h3]
              have e : z.cells.toList.toArray = z.cells := by simp
              rw [e] at h2
              simp only [h2]; rfl
            · contradiction
          · exact h.elim
        · exact h
      · exact h
    case h_24 t x lo hi heq =>
      simp only [heq, Op.operands] at hE
      have hxe := hE x (by simp)
      have hlo : lo.map (mkA n ρ ds).eval = lo.map (ev ρ) := by
        cases lo with
        | none => rfl
        | some y => simp only [Option.map_some]; rw [hE y (by simp)]
      have hhi : hi.map (mkA n ρ ds).eval = hi.map (ev ρ) := by
        cases hi with
        | none => rfl
        | some y => simp only [Option.map_some]; rw [hE y (by simp)]
      split at h
      · rename_i hs
        simp only [insVc, slSK] at h
        split at h
        · rename_i s hsx
          split at h
          · rename_i l h' el eh
            obtain ⟨⟨a1, a2, a3⟩, h⟩ := h
            simp only [execOp, heq, hxe, hlo, hhi, hsx]
            refine upon_v ⟨_, w, ?_, h⟩
            simp [Instr.sliceAt, Instr.slice, Sem.run_bind, run_underlying hs, Result.andThen, run_bounds el eh a1 a2 a3, pure, Sem.run]
          · exact h.elim
        · exact h.elim
      · rename_i e hs
        split at h
        · rename_i sz hse
          simp only [insVc, slLK] at h
          split at h
          · rename_i a len cap hsx
            split at h
            · rename_i l h' el eh
              obtain ⟨⟨a1, a2, a3⟩, h⟩ := h
              simp only [execOp, heq, hxe, hlo, hhi, hsx]
              refine upon_v ⟨_, w, ?_, h⟩
              simp [Instr.sliceAt, Instr.slice, Sem.run_bind, run_underlying hs, Result.andThen, run_bounds el eh a1 a2 a3, run_sizeOf hse, pure, Sem.run]
            · exact h.elim
          · exact h.elim
        · exact h
      · rename_i m e hs
        split at h
        · rename_i sz hse
          simp only [insVc, slAK] at h
          split at h
          · rename_i a hsx
            split at h
            · rename_i l h' el eh
              obtain ⟨⟨a1, a2, a3⟩, h⟩ := h
              simp only [execOp, heq, hxe, hlo, hhi, hsx]
              refine upon_v ⟨_, w, ?_, h⟩
              simp [Instr.sliceAt, Instr.sureAddr, Sem.run_bind, run_underlying hs, Result.andThen, run_bounds el eh a1 a2 a3, run_sizeOf hse, pure, Sem.run]
            · exact h.elim
          · exact h.elim
        · exact h
      · exact h
    case h_25 t len parts heq =>
      simp only [heq, Op.operands] at hE
      split at h
      · rename_i e hs
        split at h
        · rename_i s z hse hz
          split at h
          · rename_i hc
            obtain ⟨hz1, hz2, hz3⟩ := hc
            simp only [insVc, buildSK] at h
            split at h
            · rename_i cs hcs
              simp only [execOp, heq]
              refine upon_v ⟨_, _, ?_, h⟩
              have h3 : (parts.map fun (i, x) => (i, (mkA n ρ ds).eval x)).toList = parts.toList.map fun (i, x) => (i, ev ρ x) := by
                rw [Array.toList_map]
                refine List.map_congr_left fun p hp => ?_
                obtain ⟨i, x⟩ := p
                simp only [hE x (by simp; exact ⟨i, by simpa using hp⟩)]
              have hrow : ((Array.range (len * s)).map (z.cells[· % z.cells.size]!)) = (zeroRow z.cells.toList len).toArray := zeroRow_eq z.cells s hz1 hz2 len
              have h2 := sound_fillS (ρ := ρ) s parts.toList _ _ hcs
              simp only [Instr.buildSlice, Sem.run_bind, run_underlying hs, run_sizeOf hse, Result.andThen]
              rw [if_neg (by omega)]
              by_cases h0 : len * s = 0
              · rw [if_pos h0]
                have hl0 : len = 0 := by rcases Nat.mul_eq_zero.1 h0 with x | x <;> omega
                subst hl0
                have e0 : ((Array.range (0 * s)).map fun x => (#[] : Array Value)[x % (#[] : Array Value).size]!) = (zeroRow z.cells.toList 0).toArray := by simp [zeroRow]
                simp only [pure, Sem.run, Sem.run_bind, Result.andThen, e0, h3, h2]
                simp [newRow, Sem.run_bind, run_newObj, Result.andThen, pure, Sem.run]
              · rw [if_neg h0]
                have hr2 : ((Array.range (len * s)).map fun x => z.cells[x % z.cells.size]!) = (zeroRow z.cells.toList len).toArray := hrow
                simp only [pure, Sem.run, Sem.run_bind, Result.andThen, run_zeroValue hz, hr2, h3, h2]
                simp [newRow, Sem.run_bind, run_newObj, Result.andThen, pure, Sem.run]
            · exact h.elim
          · exact h
        · exact h
      · exact h
    case h_26 => exact h

end Go.Vc
