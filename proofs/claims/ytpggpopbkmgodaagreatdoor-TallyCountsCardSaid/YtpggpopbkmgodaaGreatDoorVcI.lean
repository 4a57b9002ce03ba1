import Derived.Test.YtpggpopbkmgodaaGreatDoorVcE
set_option linter.unusedSimpArgs false
set_option linter.unusedVariables false
set_option linter.unusedSectionVars false
set_option linter.unnecessarySimpa false
namespace Go.Vc
open Go
variable {P:Program} {go:Value→World→Prop} {ρ:Env} {ds:List Deferred} {w:World}
theorem evals {n:Nat} {ρ:Env} {ds:List Deferred} {xs:Array Operand} (h:xs.all (inB n)=true):∀x∈xs,(mkA n ρ ds).eval x=ev ρ x :=
 fun x hx=>mkA_eval n ρ ds x (by rw [Array.all_eq_true_iff_forall_mem] at h;exact h x hx)
theorem map_evals {n:Nat} {ρ:Env} {ds:List Deferred} {xs:Array Operand} (h:∀x∈xs,(mkA n ρ ds).eval x=ev ρ x):xs.map (mkA n ρ ds).eval=(xs.toList.map (ev ρ)).toArray:=by
 have:xs.map (mkA n ρ ds).eval=xs.map (ev ρ):=Array.map_congr_left h
 rw [this];apply Array.ext';simp
theorem run_bin {op:BinOp} {t:TypeId} {x y:Operand} {a b v:Value} (hg:guardOk x y a b=true) (h:(binOp op t a b).run P w = .ok v w) :
  (do eqGuard op t x y a b;binOp op t a b:Sem Value).run P w = .ok v w:=by
 rw [Sem.run_bind,run_guard_plain hg];simpa [Result.andThen] using h
theorem run_equalIn_nil (dd:Nat) {t:TypeId} {d:TypeDesc} (hd:P.underlying t=some d) {y:Operand} {k:Nat} (hk:nilKind d y=some k) {a:Value} {z:Bool} (ha:nilOf k a=some z) :
  (Op.equalIn (dd+1) t a (ev ρ y)).run P w = .ok z w:=by
 unfold nilKind at hk
 split at hk <;> simp only [reduceCtorEq,Option.some.injEq] at hk <;> subst hk <;> cases a <;> simp only [nilOf,reduceCtorEq,Option.some.injEq] at ha <;> subst ha <;>
  (unfold Op.equalIn;simp only [Sem.run_bind,run_underlying hd,Result.andThen,ev]) <;>
  first
  | rfl
  | (rename_i p;cases p <;> rfl)
  | (rename_i p _ _;cases p <;> rfl)
theorem run_equal_nil {t:TypeId} {d:TypeDesc} (hd:P.underlying t=some d) {y:Operand} {k:Nat} (hk:nilKind d y=some k) {a:Value} {z:Bool} (ha:nilOf k a=some z) :
  (Op.equal t a (ev ρ y)).run P w = .ok z w:=run_equalIn_nil 9999 hd hk ha
theorem run_equalIn_bool (dd:Nat) {t:TypeId} (hd:P.underlying t=some .bool) (a b:Bool):(Op.equalIn (dd+1) t (.bool a) (.bool b)).run P w = .ok (a == b) w:=by
 unfold Op.equalIn;simp only [Sem.run_bind,run_underlying hd,Result.andThen];rfl
theorem run_equal_bool {t:TypeId} (hd:P.underlying t=some .bool) (a b:Bool):(Op.equal t (.bool a) (.bool b)).run P w = .ok (a == b) w:=run_equalIn_bool 9999 hd a b
theorem run_pnil {t:TypeId} {d:TypeDesc} (hd:P.underlying t=some d) {x y:Operand} {k:Nat} (hk:nilKind d y=some k) {a:Value} {z:Bool} (ha:nilOf k a=some z) (neq:Bool) :
  (do eqGuard (if neq then .neq else .eql) t x y a (ev ρ y);binOp (if neq then .neq else .eql) t a (ev ρ y):Sem Value).run P w = .ok (.bool (if neq then !z else z)) w:=by
 have he:=run_equal_nil (ρ:=ρ) (w:=w) hd hk ha
 have hg:guardOk x y a (ev ρ y)=true:=by
  unfold nilKind at hk
  split at hk <;> simp only [reduceCtorEq,Option.some.injEq] at hk <;> subst hk <;> cases a <;> simp [nilOf,guardOk,ev] at ha ⊢
 refine run_bin hg ?_
 unfold nilKind at hk
 cases neq <;> split at hk <;> simp only [reduceCtorEq,Option.some.injEq] at hk <;> subst hk <;> cases a <;> simp only [nilOf,reduceCtorEq,Option.some.injEq] at ha <;>
  (simp only [ev] at he ⊢; simp only [binOp,Sem.run_bind,he,Result.andThen,if_true,if_false,Bool.false_eq_true];rfl)
theorem sound_compBin {op:BinOp} {t yt:TypeId} {x y:Operand} {n:Nat} {o:Oper} {a b:Value} (ea:a=ev ρ x) (eb:b=ev ρ y)
  (h:insVc P go ρ ds w (compBin P n o op t x y yt)) :
  compBin P n o op t x y yt = .raw n o∨∃v w',(do eqGuard op t x y a b;binOp op t a b:Sem Value).run P w = .ok v w'∧go v w':=by
 subst ea eb
 unfold compBin at h ⊢
 split at h
 ·split at h
  ·split at h
   ·rename_i k' _ _ _
    right
    simp only [insVc,iopK] at h
    split at h
    ·rename_i m n hx hy
     obtain ⟨hk,h⟩:=h
     unfold loadV at h
     split at h
     ·rename_i v hv
      refine ⟨v,w, ?_,h⟩
      rw [hx,hy]
      exact run_bin rfl (sound_iop hk hv t)
     ·exact h.elim
    ·exact h.elim
   ·left;simp_all
  ·left;simp_all
 ·right
  simp only [insVc,sopK] at h
  split at h
  ·rename_i m n hx hy
   unfold loadV at h
   split at h
   ·rename_i v hv
    refine ⟨v,w, ?_,h⟩
    rw [hx,hy]
    exact run_bin rfl (sound_sop hv t)
   ·exact h.elim
  ·exact h.elim
 ·rename_i hd
  split at h
  ·right
   simp only [insVc,bopK] at h
   split at h
   ·rename_i m n hx hy
    refine ⟨_,w, ?_,h⟩
    rw [hx,hy]
    refine run_bin rfl ?_
    simp only [binOp,Sem.run_bind,run_equal_bool hd,Result.andThen];rfl
   ·exact h.elim
  ·right
   simp only [insVc,bopK] at h
   split at h
   ·rename_i m n hx hy
    refine ⟨_,w, ?_,h⟩
    rw [hx,hy]
    refine run_bin rfl ?_
    simp only [binOp,Sem.run_bind,run_equal_bool hd,Result.andThen];cases m <;> cases n <;> rfl
   ·exact h.elim
  ·left;simp_all
 ·rename_i d _ _ _ hd
  split at h
  ·rename_i k hk
   right
   simp only [insVc,pnilK] at h
   split at h
   ·rename_i z hz
    exact ⟨_,w,run_pnil (ρ:=ρ) hd hk hz false,h⟩
   ·exact h.elim
  ·rename_i k hk
   right
   simp only [insVc,pnilK] at h
   split at h
   ·rename_i z hz
    exact ⟨_,w,run_pnil (ρ:=ρ) hd hk hz true,h⟩
   ·exact h.elim
  ·left;simp_all
 ·left;simp_all
variable {P:Program} {go:Value→World→Prop} {ρ:Env} {ds:List Deferred} {w:World}
theorem sound_call {f:FuncId} {args:Array Value} {K:Value→World→Prop} (h:Ok P f args w K):upon P K ((callFunc f args).run P w):=by
 rw [callFunc_ok h.1];exact h.2
theorem sound_callv {v:Value} {args:List Value} (h:callvK P go w args v):upon P go ((do let d ← Deferred.ofValue v args.toArray;invoke d.target d.args:Sem Next).run P w):=by
 unfold callvK at h
 split at h
 ·rename_i f first cap
  simp only [Deferred.ofValue,Sem.run_bind,pure,Sem.run,Result.andThen,invoke]
  have e:first ++ args.toArray ++ cap=(first.toList ++ args ++ cap.toList).toArray:=by apply Array.ext';simp
  rw [e];exact sound_call h
 ·rename_i l first cap
  simp only [Deferred.ofValue,Sem.run_bind,pure,Sem.run,Result.andThen,invoke]
  have e:first ++ args.toArray=(first.toList ++ args).toArray:=by apply Array.ext';simp
  rw [e];exact h
 ·exact h.elim
theorem sound_inv {v:Value} {name:String} {args:List Value} (h:invK P go w name args v):upon P go ((callMethod v name args.toArray).run P w):=by
 unfold invK at h
 split at h
 ·rename_i t x
  obtain ⟨f,y,hm,hc⟩:=h
  simp only [callMethod,Sem.run_bind,run_program,Result.andThen,hm]
  have e : #[y] ++ args.toArray=(y :: args).toArray:=by apply Array.ext';simp
  rw [e];exact sound_call hc
 ·exact h.elim
theorem ofFields {fields:Array Field} {pl:List (Nat × Nat)} (h:fields.toList.mapM (fun f=>(csz P f.type).map fun s=>(f.offset,s))=some pl) :
  (fields.mapM (fun f=>do pure (f.offset,← sizeOf f.type)):Sem (Array (Nat × Nat))).run P w = .ok pl.toArray w:=by
 rw [Array.mapM_eq_mapM_toList]
 generalize fields.toList=l at h
 have key:∀(l:List Field) (pl:List (Nat × Nat)),l.mapM (fun f=>(csz P f.type).map fun s=>(f.offset,s))=some pl →
   (l.mapM (fun f=>do pure (f.offset,← sizeOf f.type)):Sem (List (Nat × Nat))).run P w = .ok pl w:=by
  intro l
  induction l with
  | nil=>intro pl h;simp at h;subst h;simp [pure]
  | cons f l ih =>
   intro pl h
   simp only [List.mapM_cons] at h ⊢
   cases hs:csz P f.type with
   | none=>simp [hs] at h
   | some s =>
    cases hl:l.mapM (fun f=>(csz P f.type).map fun s=>(f.offset,s)) with
    | none=>simp [hs,hl] at h
    | some pl' =>
     simp [hs,hl] at h;subst h
     have h2:∀(w:World),(do pure (f.offset,← sizeOf f.type):Sem (Nat × Nat)).run P w = .ok (f.offset,s) w:=fun w=>by rw [Sem.run_bind,run_sizeOf hs];rfl
     rw [Sem.run_bind,h2]
     simp only [Result.andThen]
     rw [Sem.run_bind,ih pl' hl];rfl
 change Sem.run P (l.mapM _ >>= (pure ∘ List.toArray)) w=_
 rw [Sem.run_bind,key l pl h];rfl
theorem sound_fill {ρ:Env} {pl:List (Nat × Nat)}:∀(parts:List (Nat × Operand)) (l:List (Nat × Nat × Operand)) (cs out:Array Value),compParts pl parts=some l→fillL ρ l cs=some out →
  Instr.fill (pl.toArray[·]?) cs (parts.map fun (i,x)=>(i,ev ρ x))=some out:=by
 intro parts
 induction parts with
 | nil=>intro l cs out hl ho;simp [compParts] at hl;subst hl;simp [fillL] at ho;subst ho;simp [Instr.fill]
 | cons p parts ih =>
  intro l cs out hl ho
  obtain ⟨i,x⟩:=p
  simp only [compParts] at hl
  split at hl
  ·rename_i off s l' h1 h2
   simp at hl;subst hl
   simp only [fillL] at ho
   split at ho
   ·rename_i hc
    simp only [List.map_cons,Instr.fill]
    have e:(pl.toArray[i]? : Option (Nat × Nat))=some (off,s):=by simpa using h1
    rw [e]
    simp only []
    rw [if_neg (by simp;omega)]
    have:=ih l' _ out h2 ho
    rw [← Array.foldl_toList]
    simpa using this
   ·contradiction
  ·contradiction
theorem zeroRow_length (z:List Value):∀k,(zeroRow z k).length=k * z.length
 | 0=>by simp [zeroRow]
 | k+1=>by simp [zeroRow,zeroRow_length z k,Nat.add_mul];omega
theorem zeroRow_get (z:List Value) (hz:0<z.length):∀k i,i<k * z.length→(zeroRow z k)[i]? = z[i%z.length]?:=by
 intro k
 induction k with
 | zero=>intro i h;omega
 | succ k ih =>
  intro i h
  simp only [zeroRow]
  by_cases hi:i<z.length
  ·rw [List.getElem?_append_left hi,Nat.mod_eq_of_lt hi]
  ·have hi':z.length≤i:=Nat.le_of_not_lt hi
   rw [List.getElem?_append_right hi',ih _ (by rw [Nat.add_mul] at h;omega)]
   rw [Nat.mod_eq_sub_mod hi']
theorem zeroRow_eq (z:Array Value) (s:Nat) (hz:z.size=s) (hs:0<s) (len:Nat):((Array.range (len * s)).map (z[· % z.size]!))=(zeroRow z.toList len).toArray:=by
 subst hz
 apply Array.ext'
 apply List.ext_getElem?
 intro i
 by_cases hi:i<len * z.size
 ·have h1:=zeroRow_get z.toList (by simpa using hs) len i (by simpa using hi)
  have hm:i%z.size<z.size:=Nat.mod_lt _ hs
  simp only [Array.toList_map,List.getElem?_map,h1]
  simp [hi,hm,Array.getElem!_eq_getD]
 ·rw [List.getElem?_eq_none (by simp;omega),List.getElem?_eq_none (by simp [zeroRow_length];omega)]
theorem sound_fillS {ρ:Env} (s:Nat):∀(parts:List (Nat × Operand)) (cs out:Array Value),fillL ρ (parts.map fun p=>(p.1*s,s,p.2)) cs=some out →
  Instr.fill (fun i=>some (i * s,s)) cs (parts.map fun (i,x)=>(i,ev ρ x))=some out:=by
 intro parts
 induction parts with
 | nil=>intro cs out ho;simp [fillL] at ho;subst ho;simp [Instr.fill]
 | cons p parts ih =>
  intro cs out ho
  obtain ⟨i,x⟩:=p
  simp only [List.map_cons,fillL] at ho
  split at ho
  ·rename_i hc
   simp only [List.map_cons,Instr.fill]
   rw [if_neg (by simp;omega)]
   have:=ih _ out ho
   rw [← Array.foldl_toList]
   simpa using this
  ·contradiction
theorem sound_ins (n:Nat) (o:Oper) (h:insVc P go ρ ds w (compOp P n o)):upon P go ((execOp (mkA n ρ ds).eval o).run P w):=by
 unfold compOp at h
 split at h
 ·exact h
 ·rename_i hb
  have hb':o.op.operands.all (inB n)=true:=by rw [← Array.all_toList];simpa using hb
  have hE:=evals (ρ:=ρ) (ds:=ds) hb'
  split at h
  case h_1 x heq=>simp only [heq,Op.operands] at hE;simp only [execOp,heq,hE x (by simp)];exact h
  case h_2 x heq=>simp only [heq,Op.operands] at hE;simp only [execOp,heq,hE x (by simp)];exact h
  case h_3 c a b heq =>
   simp only [heq,Op.operands] at hE
   simp only [execOp,heq,hE c (by simp),hE a (by simp),hE b (by simp)]
   simp only [insVc,pickK] at h
   split at h
   ·rename_i t ht
    simp only [ht,asBool,Sem.run_bind,pure,Sem.run,Result.andThen,upon];exact h
   ·exact h.elim
  case h_4 t heq =>
   split at h
   ·rename_i v hv
    simp only [execOp,heq]
    refine upon_v ⟨_,_, ?_,h⟩
    simp [Instr.alloc,Sem.run_bind,run_zeroValue hv,Result.andThen,newVar,newRow,pure,Sem.run]
   ·exact h
  case h_5 t x heq =>
   simp only [heq,Op.operands] at hE
   simp only [execOp,heq,hE x (by simp)]
   refine upon_v ⟨_,_, ?_,h⟩
   simp [Instr.box,Sem.run_bind,Result.andThen,newVar,newRow,pure,Sem.run]
  case h_6 t x heq =>
   simp only [heq,Op.operands] at hE
   split at h
   ·rename_i s a hs ha
    simp only [execOp,heq,hE x (by simp)]
    cases a with
    | true =>
     simp only [if_true,insVc,loadNK] at h
     split at h
     ·rename_i hx
      rw [hx];obtain ⟨v,e,k⟩:=run_loadAtN ha hs h;exact upon_v ⟨v,w,e,k⟩
     ·exact h.elim
    | false =>
     simp only [Bool.false_eq_true,if_false,insVc,load1K] at h
     split at h
     ·rename_i hx
      rw [hx];obtain ⟨v,e,k⟩:=run_loadAt1 ha h;exact upon_v ⟨v,w,e,k⟩
     ·exact h.elim
   ·exact h
  case h_7 t x v heq =>
   simp only [heq,Op.operands] at hE
   split at h
   ·rename_i s a hs ha
    cases a with
    | true =>
     simp only [execOp,heq,hE x (by simp),hE v (by simp)]
     simp only [if_true,insVc,storeNK] at h
     split at h
     ·rename_i hx hv
      rw [hx,hv];obtain ⟨w',e,k⟩:=run_storeAtN hs h;exact upon_u ⟨w',e,k⟩
     ·exact h.elim
    | false =>
     simp only [Bool.false_eq_true,if_false] at h
     split at h
     ·rename_i hs1;subst hs1
      simp only [execOp,heq,hE x (by simp),hE v (by simp)]
      simp only [insVc,storeK] at h
      split at h
      ·rename_i hx
       rw [hx];obtain ⟨w',e,k⟩:=run_storeAt1 hs h;exact upon_u ⟨w',e,k⟩
      ·exact h.elim
     ·exact h
   ·exact h
  case h_8 x heq =>
   simp only [heq,Op.operands] at hE
   simp only [execOp,heq,hE x (by simp)]
   simp only [insVc,nilK] at h
   split at h
   ·rename_i hx;rw [hx];exact h
   ·rename_i hx;rw [hx];exact h
   ·rename_i hx;rw [hx];exact h
   ·rename_i nm first cap hx
    obtain ⟨h1,h2⟩:=h
    unfold nilM at h1
    split at h1
    ·rename_i t v hf
     rw [hx]
     simp only [hf,Sem.run_bind,run_program,Result.andThen,h1 w]
     exact h2
    ·exact h1.elim
   ·exact h.elim
  case h_9 op t x y yt heq =>
   simp only [heq,Op.operands] at hE
   rcases sound_compBin (hE x (by simp)) (hE y (by simp)) h with h'|⟨v,w',e,k⟩
   ·rw [h'] at h;exact h
   ·simp only [execOp,heq];exact upon_v ⟨v,w',e,k⟩
  case h_10 t x heq =>
   simp only [heq,Op.operands] at hE
   simp only [execOp,heq,hE x (by simp)]
   simp only [insVc,notK] at h
   split at h
   ·rename_i b hx;rw [hx];exact upon_v ⟨_,w,rfl,h⟩
   ·exact h.elim
  case h_11 s d x heq =>
   simp only [heq,Op.operands] at hE
   split at h
   ·rename_i k k' hs hd
    simp only [execOp,heq,hE x (by simp)]
    simp only [insVc,convK] at h
    split at h
    ·rename_i m hx;rw [hx]
     refine upon_v ⟨_,w, ?_,h⟩
     simp only [convert,Sem.run_bind,run_underlying hs,run_underlying hd,Result.andThen];rfl
    ·exact h.elim
   ·rename_i hs hd
    simp only [execOp,heq,hE x (by simp)]
    simp only [insVc,sameK] at h
    split at h
    ·rename_i m hx;rw [hx]
     refine upon_v ⟨_,w, ?_,h⟩
     simp only [convert,Sem.run_bind,run_underlying hs,run_underlying hd,Result.andThen];rfl
    ·exact h.elim
   ·exact h
  case h_12 t x heq =>
   simp only [heq,Op.operands] at hE
   split at h
   ·exact h
   ·exact h
   ·rename_i d hn hd
    cases hu:P.underlying t with
    | none=>exact absurd hu (by simpa using hd)
    | some dd =>
     simp only [execOp,heq,hE x (by simp)]
     refine upon_v ⟨_,w, ?_,h⟩
     simp only [Instr.makeInterface,Sem.run_bind,run_underlying hu,Result.andThen]
     cases dd <;> first|rfl|(exact absurd hu (hn _))
  case h_13 fn first cap heq =>
   simp only [heq,Op.operands] at hE
   simp only [execOp,heq]
   refine upon_v ⟨_,w, ?_,h⟩
   rw [map_evals (fun x hx=>hE x (by simp [hx])),map_evals (fun x hx=>hE x (by simp [hx]))];rfl
  case h_14 s x f heq =>
   simp only [heq,Op.operands] at hE
   split at h
   ·rename_i fs hs
    split at h
    ·rename_i fd hf
     split at h
     ·rename_i m hm
      simp only [execOp,heq,hE x (by simp)]
      simp only [insVc,faddrK] at h
      split at h
      ·rename_i b o' hx;rw [hx]
       refine upon_v ⟨_,w, ?_,h⟩
       simp [Instr.fieldAt,Sem.run_bind,run_underlying hs,Result.andThen,hf,Instr.sureAddr,fieldPlace,run_sizeOf hm,pure,Sem.run,add_off]
      ·exact h.elim
     ·exact h
    ·exact h
   ·exact h
  case h_15 s x f heq =>
   simp only [heq,Op.operands] at hE
   split at h
   ·rename_i fs hs
    split at h
    ·rename_i fd hf
     split at h
     ·rename_i m a hm ha
      simp only [execOp,heq,hE x (by simp)]
      cases a with
      | true =>
       simp only [if_true,insVc,fldNK] at h
       split at h
       ·rename_i cs hx;rw [hx]
        refine upon_v ⟨_,w, ?_,h⟩
        simp [Instr.field,Sem.run_bind,run_underlying hs,Result.andThen,hf,asAgg,part,run_isAgg ha,run_sizeOf hm,pure,Sem.run]
       ·exact h.elim
      | false =>
       simp only [Bool.false_eq_true,if_false,insVc,fld1K,loadV] at h
       split at h
       ·rename_i cs hx
        split at h
        ·rename_i v hv;rw [hx]
         refine upon_v ⟨_,w, ?_,h⟩
         simp [Instr.field,Sem.run_bind,run_underlying hs,Result.andThen,hf,asAgg,part,run_isAgg ha,hv,pure,Sem.run]
        ·exact h.elim
       ·exact h.elim
     ·exact h
    ·exact h
   ·exact h
  case h_16 t x i heq =>
   simp only [heq,Op.operands] at hE
   split at h
   ·rename_i e hs
    split at h
    ·rename_i s hse
     simp only [execOp,heq,hE x (by simp),hE i (by simp)]
     simp only [insVc,iaddrK] at h
     split at h
     ·rename_i b o' len cap k j hx hi;rw [hx,hi]
      obtain ⟨hj,h⟩:=h
      refine upon_v ⟨_,w, ?_,h⟩
      simp [Instr.indexAt,Sem.run_bind,run_asIntOf,run_underlying hs,Result.andThen,hj,run_sizeOf hse,pure,Sem.run,add_off]
     ·exact h.elim
    ·exact h
   ·rename_i len e hs
    split at h
    ·rename_i s hse
     simp only [execOp,heq,hE x (by simp),hE i (by simp)]
     simp only [insVc,iaddrAK] at h
     split at h
     ·rename_i b o' k j hx hi;rw [hx,hi]
      obtain ⟨hj,h⟩:=h
      refine upon_v ⟨_,w, ?_,h⟩
      simp [Instr.indexAt,Instr.sureAddr,Sem.run_bind,run_asIntOf,run_underlying hs,Result.andThen,hj,run_sizeOf hse,pure,Sem.run,add_off]
     ·exact h.elim
    ·exact h
   ·exact h
  case h_17 t x i heq =>
   simp only [heq,Op.operands] at hE
   split at h
   ·rename_i hs
    simp only [execOp,heq,hE x (by simp),hE i (by simp)]
    simp only [insVc,sidxK,loadV] at h
    split at h
    ·rename_i s k j hx hi;rw [hx,hi]
     obtain ⟨hj,h⟩:=h
     split at h
     ·rename_i v hv
      refine upon_v ⟨_,w, ?_,h⟩
      cases hd:s.data[j.toNat]? with
      | none=>simp [hd] at hv
      | some b =>
       simp [hd] at hv;subst hv
       have hlt:j.toNat<s.data.size:=by
        rcases Nat.lt_or_ge j.toNat s.data.size with x|x
        ·exact x
        ·rw [Array.getElem?_eq_none x] at hd;cases hd
       have e:s[j.toNat]? = some b:=by
        rw [getElem?_pos s j.toNat hlt]
        rw [Array.getElem?_eq_getElem hlt] at hd
        exact hd
       simp [Instr.index,Sem.run_bind,run_asIntOf,run_underlying hs,Result.andThen,hj,e,pure]
     ·exact h.elim
    ·exact h.elim
   ·exact h
  case h_18 x i heq =>
   simp only [heq,Op.operands] at hE
   simp only [execOp,heq,hE x (by simp)]
   obtain ⟨v,w',e,k⟩:=sound_ext h
   exact upon_v ⟨v,w',e,k⟩
  case h_19 f args ats heq =>
   simp only [heq,Op.operands,Call.operands] at hE
   split at h
   ·simp only [execOp,heq,resolve,Sem.run_bind,Act.eval,Deferred.ofValue,pure,Sem.run,Result.andThen,invoke]
    have e:(#[] ++ args.map (mkA n ρ ds).eval ++ #[]:Array Value)=(args.toList.map (ev ρ)).toArray:=by
     rw [map_evals (fun x hx=>hE x (by simp [hx]))];simp
    have e':(#[] ++ args.map (fun x=>(mkA n ρ ds).eval x) ++ #[]:Array Value)=(args.toList.map (ev ρ)).toArray:=e
    rw [e']
    exact sound_call h
   ·exact h
  case h_20 x args ats _ heq =>
   simp only [heq,Op.operands,Call.operands] at hE
   have e:=map_evals (fun x hx=>hE x (by simp [hx])) (xs:=args)
   have hx:=hE x (by simp)
   have:=sound_callv (P:=P) (w:=w) (v:=ev ρ x) h
   simp only [execOp,heq,resolve,hx,e]
   exact this
  case h_21 x name args ats heq =>
   simp only [heq,Op.operands,Call.operands] at hE
   have e:=map_evals (fun x hx=>hE x (by simp [hx])) (xs:=args)
   have hx:=hE x (by simp)
   have:=sound_inv (P:=P) (w:=w) (v:=ev ρ x) h
   simp only [execOp,heq,resolve,hx,e,Sem.run_bind,pure,Sem.run,Result.andThen,invoke]
   have e2:(#[ev ρ x] ++ (args.toList.map (ev ρ)).toArray)[0]? = some (ev ρ x):=by simp
   have e3:(#[ev ρ x] ++ (args.toList.map (ev ρ)).toArray).extract 1 (#[ev ρ x] ++ (args.toList.map (ev ρ)).toArray).size=(args.toList.map (ev ρ)).toArray:=by
    apply Array.ext';simp [List.take_of_length_le]
   simp only [e2,e3]
   exact this
  case h_22 args ats heq =>
   simp only [heq,Op.operands,Call.operands] at hE
   split at h
   ·rename_i t x ht hx
    have ea:ats = #[t]:=by apply Array.ext';simpa using ht
    have eb:args = #[x]:=by apply Array.ext';simpa using hx
    subst ea eb
    have hxe:=hE x (by simp)
    split at h
    ·rename_i hs
     simp only [insVc,lenSK] at h
     split at h
     ·rename_i s hsx
      simp [execOp,heq,resolve,Sem.run_bind,pure,Sem.run,Result.andThen,invoke,builtin,Builtin.len_,run_underlying hs,hxe,hsx,goInt,upon];exact h
     ·exact h.elim
    ·rename_i e hs
     simp only [insVc,lenLK] at h
     split at h
     ·rename_i a l c hsx
      simp [execOp,heq,resolve,Sem.run_bind,pure,Sem.run,Result.andThen,invoke,builtin,Builtin.len_,run_underlying hs,hxe,hsx,goInt,upon];exact h
     ·exact h.elim
    ·exact h
   ·exact h
  case h_23 t parts heq =>
   simp only [heq,Op.operands] at hE
   split at h
   ·rename_i pl z hp hz
    split at h
    ·rename_i l hl
     simp only [insVc,buildK] at h
     split at h
     ·rename_i cs hcs
      simp only [execOp,heq]
      refine upon_v ⟨_,w, ?_,h⟩
      unfold placesOf at hp
      split at hp
      ·rename_i fields hs
       have h1:=ofFields (P:=P) (w:=w) hp
       have h2:=sound_fill _ _ _ _ hl hcs
       have h3:(parts.map fun (i,x)=>(i,(mkA n ρ ds).eval x)).toList=parts.toList.map fun (i,x)=>(i,ev ρ x):=by
        rw [Array.toList_map]
        refine List.map_congr_left fun p hp => ?_
        obtain ⟨i,x⟩:=p
        simp only [hE x (by simp;exact ⟨i,by simpa using hp⟩)]
       simp only [Instr.build,Sem.run_bind,run_zeroValue hz,run_underlying hs,Result.andThen,h1]
       rw [h3]
       have e:z.cells.toList.toArray=z.cells:=by simp
       rw [e] at h2
       simp only [h2];rfl
      ·contradiction
     ·exact h.elim
    ·exact h
   ·exact h
  case h_24 t x lo hi heq =>
   simp only [heq,Op.operands] at hE
   have hxe:=hE x (by simp)
   have hlo:lo.map (mkA n ρ ds).eval=lo.map (ev ρ):=by
    cases lo with
    | none=>rfl
    | some y=>simp only [Option.map_some];rw [hE y (by simp)]
   have hhi:hi.map (mkA n ρ ds).eval=hi.map (ev ρ):=by
    cases hi with
    | none=>rfl
    | some y=>simp only [Option.map_some];rw [hE y (by simp)]
   split at h
   ·rename_i hs
    simp only [insVc,slSK] at h
    split at h
    ·rename_i s hsx
     split at h
     ·rename_i l h' el eh
      obtain ⟨⟨a1,a2,a3⟩,h⟩:=h
      simp only [execOp,heq,hxe,hlo,hhi,hsx]
      refine upon_v ⟨_,w, ?_,h⟩
      simp [Instr.sliceAt,Instr.slice,Sem.run_bind,run_underlying hs,Result.andThen,run_bounds el eh a1 a2 a3,pure,Sem.run]
     ·exact h.elim
    ·exact h.elim
   ·rename_i e hs
    split at h
    ·rename_i sz hse
     simp only [insVc,slLK] at h
     split at h
     ·rename_i a len cap hsx
      split at h
      ·rename_i l h' el eh
       obtain ⟨⟨a1,a2,a3⟩,h⟩:=h
       simp only [execOp,heq,hxe,hlo,hhi,hsx]
       refine upon_v ⟨_,w, ?_,h⟩
       simp [Instr.sliceAt,Instr.slice,Sem.run_bind,run_underlying hs,Result.andThen,run_bounds el eh a1 a2 a3,run_sizeOf hse,pure,Sem.run]
      ·exact h.elim
     ·exact h.elim
    ·exact h
   ·rename_i m e hs
    split at h
    ·rename_i sz hse
     simp only [insVc,slAK] at h
     split at h
     ·rename_i a hsx
      split at h
      ·rename_i l h' el eh
       obtain ⟨⟨a1,a2,a3⟩,h⟩:=h
       simp only [execOp,heq,hxe,hlo,hhi,hsx]
       refine upon_v ⟨_,w, ?_,h⟩
       simp [Instr.sliceAt,Instr.sureAddr,Sem.run_bind,run_underlying hs,Result.andThen,run_bounds el eh a1 a2 a3,run_sizeOf hse,pure,Sem.run]
      ·exact h.elim
     ·exact h.elim
    ·exact h
   ·exact h
  case h_25 t len parts heq =>
   simp only [heq,Op.operands] at hE
   split at h
   ·rename_i e hs
    split at h
    ·rename_i s z hse hz
     split at h
     ·rename_i hc
      obtain ⟨hz1,hz2,hz3⟩:=hc
      simp only [insVc,buildSK] at h
      split at h
      ·rename_i cs hcs
       simp only [execOp,heq]
       refine upon_v ⟨_,_, ?_,h⟩
       have h3:(parts.map fun (i,x)=>(i,(mkA n ρ ds).eval x)).toList=parts.toList.map fun (i,x)=>(i,ev ρ x):=by
        rw [Array.toList_map]
        refine List.map_congr_left fun p hp => ?_
        obtain ⟨i,x⟩:=p
        simp only [hE x (by simp;exact ⟨i,by simpa using hp⟩)]
       have hrow:((Array.range (len * s)).map (z.cells[· % z.cells.size]!))=(zeroRow z.cells.toList len).toArray:=zeroRow_eq z.cells s hz1 hz2 len
       have h2:=sound_fillS (ρ:=ρ) s parts.toList _ _ hcs
       simp only [Instr.buildSlice,Sem.run_bind,run_underlying hs,run_sizeOf hse,Result.andThen]
       rw [if_neg (by omega)]
       by_cases h0:len * s=0
       ·rw [if_pos h0]
        have hl0:len=0:=by rcases Nat.mul_eq_zero.1 h0 with x|x <;> omega
        subst hl0
        have e0:((Array.range (0*s)).map fun x=>(#[]:Array Value)[x%(#[]:Array Value).size]!)=(zeroRow z.cells.toList 0).toArray:=by simp [zeroRow]
        simp only [pure,Sem.run,Sem.run_bind,Result.andThen,e0,h3,h2]
        simp [newRow,Sem.run_bind,Result.andThen,pure,Sem.run]
       ·rw [if_neg h0]
        have hr2:((Array.range (len * s)).map fun x=>z.cells[x%z.cells.size]!)=(zeroRow z.cells.toList len).toArray:=hrow
        simp only [pure,Sem.run,Sem.run_bind,Result.andThen,run_zeroValue hz,hr2,h3,h2]
        simp [newRow,Sem.run_bind,Result.andThen,pure,Sem.run]
      ·exact h.elim
     ·exact h
    ·exact h
   ·exact h
  case h_26=>exact h
inductive CC where
 | skip
 | seq (a b:CC)
 | cond (c:Operand) (a b:CC)
 | block (id:Nat) (b:CC)
 | loop (b:CC)
 | exit (id:Nat)
 | ret
 | ops (l:List In)
 | draw (id:Nat) (ops:Array Oper) (l:List In)
 | range (f:Operand) (params:Array Tmp) (asg body:Code) (casg cbody:CC)
 | raw (c:Code)
 deriving Inhabited
def compG (n:Nat) (ops:Array Oper):Option (Nat × Bool)→Option (Option (Nat × Bool))
 | none=>some none
 | some (j,want)=>match (ops[j]?).bind (·.dst) with
  | some s=>if s<n then some (some (s,want)) else none
  | none=>none
def compOps (P:Program) (n:Nat) (ops:Array Oper):List Oper→Option (List In)
 | []=>some []
 | o :: l=>match compG n ops o.guard,compOps P n ops l with
  | some g,some l'=>some (⟨g,o.dst,compOp P n o⟩ :: l')
  | _,_=>none
def comp (P:Program) (n:Nat):Code→CC
 | .skip=>.skip
 | .label _=>.skip
 | .seq a b=>.seq (comp P n a) (comp P n b)
 | .cond c a b=>if inB n c then .cond c (comp P n a) (comp P n b) else .raw (.cond c a b)
 | .block id b=>.block id (comp P n b)
 | .loop b=>.loop (comp P n b)
 | .exit id=>.exit id
 | .ret=>.ret
 | .region id ops false=>(match compOps P n ops ops.toList with|some l=>.ops l|none=>.raw (.region id ops false))
 | .region id ops true=>(match compOps P n ops ops.toList with|some l=>.draw id ops l|none=>.raw (.region id ops true))
 | .rangeFunc f params asg body=>.range f params asg body (comp P n asg) (comp P n body)
 | c=>.raw c
abbrev QT:=Exit→Env→List Deferred→World→Prop
def gate:Value→Bool→Bool
 | .bool t,want=>t == want
 | _,_=>false
def vcOps (P:Program):List In→(Env→List Deferred→World→Prop)→Env→List Deferred→World→Prop
 | [],K,ρ,ds,w=>K ρ ds w
 | ⟨none,d,i⟩ :: l,K,ρ,ds,w=>insVc P (fun v w'=>vcOps P l K (updO ρ d v) ds w') ρ ds w i
 | ⟨some (s,want),d,i⟩ :: l,K,ρ,ds,w =>
  match gate (ρ s) want with
  | true=>insVc P (fun v w'=>vcOps P l K (updO ρ d v) ds w') ρ ds w i
  | false=>vcOps P l K (updO ρ d undef) ds w
def goL (P:Program) (l:List In) (K:Env→List Deferred→World→Prop) (ρ:Env) (d:Option Nat) (ds:List Deferred):Value→World→Prop :=
 fun v w=>vcOps P l K (updO ρ d v) ds w
def gateK (P:Program) (i:Ins) (l:List In) (K:Env→List Deferred→World→Prop) (ρ:Env) (d:Option Nat) (ds:List Deferred) (w:World):Bool→Prop
 | true=>insVc P (goL P l K ρ d ds) ρ ds w i
 | false=>vcOps P l K (updO ρ d undef) ds w
def thenQ (N:Env→List Deferred→World→Prop) (Q:QT):QT
 | .normal,ρ,ds,w=>N ρ ds w
 | e,ρ,ds,w=>Q e ρ ds w
def blockQ (id:Nat) (Q:QT):QT
 | .exit j,ρ,ds,w=>if j=id then Q .normal ρ ds w else Q (.exit j) ρ ds w
 | e,ρ,ds,w=>Q e ρ ds w
def condP (A B:Env→List Deferred→World→Prop) (ρ:Env) (ds:List Deferred) (w:World):Value→Prop
 | .bool true=>A ρ ds w
 | .bool false=>B ρ ds w
 | _=>False
def lift (n:Nat) (Q:QT):Exit→Act→World→Prop:=fun e a w => ∃ρ ds,a=mkA n ρ ds∧Q e ρ ds w
def vc (P:Program) (ro:Option Nat) (n:Nat):CC→QT→Env→List Deferred→World→Prop
 | .skip,Q,ρ,ds,w=>Q .normal ρ ds w
 | .seq a b,Q,ρ,ds,w=>vc P ro n a (thenQ (vc P ro n b Q) Q) ρ ds w
 | .cond c a b,Q,ρ,ds,w=>condP (vc P ro n a Q) (vc P ro n b Q) ρ ds w (ev ρ c)
 | .block id b,Q,ρ,ds,w=>vc P ro n b (blockQ id Q) ρ ds w
 | .loop b,Q,ρ,ds,w => ∃I:Nat→Env→List Deferred→World→Prop,(∃m,I m ρ ds w) ∧
   ∀m ρ ds w,I m ρ ds w→vc P ro n b (thenQ (fun ρ' ds' w' => ∃m',m'<m∧I m' ρ' ds' w') Q) ρ ds w
 | .exit id,Q,ρ,ds,w=>Q (.exit id) ρ ds w
 | .ret,Q,ρ,ds,w=>Q .ret ρ ds w
 | .ops l,Q,ρ,ds,w=>vcOps P l (Q .normal) ρ ds w
 | .draw _ ops _,Q,ρ,ds,w => ∀t,wpOpsIn (FW ro) 0 P ops (lift n Q) (Region.schedule (P.follows .mixedOrders) ops t) (mkA n ρ ds) w.drew
 | .range f params asg body _ _,Q,ρ,ds,w=>(Code.rangeFunc f params asg body).wpIn (FW ro) 0 P (lift n Q) (mkA n ρ ds) w
 | .raw c,Q,ρ,ds,w=>c.wpIn (FW ro) 0 P (lift n Q) (mkA n ρ ds) w
variable {P:Program} {ro:Option Nat} {n:Nat}
def gateOf (ρ:Env):Option (Nat × Bool)→Bool
 | none=>true
 | some (s,want)=>gate (ρ s) want
theorem wanted_gate {ops:Array Oper} {o:Oper} {g:Option (Nat × Bool)} {ρ:Env} {ds:List Deferred} (h:compG n ops o.guard=some g) :
  Region.wanted o (yielded ops (mkA n ρ ds).tmps)=gateOf ρ g:=by
 unfold Region.wanted
 cases hg:o.guard with
 | none=>simp [hg,compG] at h;subst h;rfl
 | some p =>
  obtain ⟨j,want⟩:=p
  simp only [hg,compG] at h
  split at h
  ·rename_i s hs
   split at h
   ·rename_i hlt
    simp at h;subst h
    simp only [yielded,hs,Option.bind_some,mkA,tm_get _ _ _ hlt,gateOf]
    cases ρ s <;> simp [gate]
   ·contradiction
  ·contradiction
theorem sound_ops {ops:Array Oper} {Q:QT}:∀(l:List Oper) (k:Nat) (li:List In),(∀j,l[j]? = ops[k+j]?)→compOps P n ops l=some li→∀(ρ:Env) (ds:List Deferred) (w:World),
  vcOps P li (Q .normal) ρ ds w→wpOpsIn (FW ro) 0 P ops (lift n Q) (List.range' k l.length) (mkA n ρ ds) w:=by
 intro l
 induction l with
 | nil=>intro k li _ hc ρ ds w h;simp [compOps] at hc;subst hc;exact ⟨ρ,ds,rfl,h⟩
 | cons o l ih =>
  intro k li hk hc ρ ds w h
  simp only [compOps] at hc
  split at hc
  ·rename_i g l' hg hl
   simp at hc;subst hc
   have h0:ops[k]? = some o:=by simpa using (hk 0).symm
   have hk':∀j,l[j]? = ops[k+1+j]?:=fun j=>by have:=hk (j+1);simpa [Nat.add_assoc,Nat.add_comm 1 j] using this
   simp only [List.length_cons,List.range'_succ,wpOpsIn,h0,wanted_gate (ρ:=ρ) (ds:=ds) hg]
   have hins:insVc P (fun v w'=>vcOps P l' (Q .normal) (updO ρ o.dst v) ds w') ρ ds w (compOp P n o)→o.wpIn (FW ro) 0 P (mkA n ρ ds) w (wpOpsIn (FW ro) 0 P ops (lift n Q) (List.range' (k+1) l.length)) (lift n Q):=by
    intro hi
    refine ⟨fun f _=>trivial, ?_⟩
    have hnd:∀c,o.op≠.defer c:=by
     intro c hc'
     have:=sound_ins n o hi
     simp only [execOp,hc',Sem.run_bind] at this
     cases hr:(resolve (mkA n ρ ds).eval c o.type).run P w with
     | ok d w'=>simp [hr,Result.andThen,pure,upon] at this
     | halt x w'=>simp [hr,Result.andThen,upon] at this
    rw [Oper.semAt_eq _ _ _ hnd]
    refine uponIn_of_upon ?_
    have:=sound_ins n o hi
    have hm:∀v w',vcOps P l' (Q .normal) (updO ρ o.dst v) ds w'→wpOpsIn (FW ro) 0 P ops (lift n Q) (List.range' (k+1) l.length) ((mkA n ρ ds).put o.dst v) w':=by
     intro v w' hv
     rw [mkA_put]
     exact ih (k+1) l' hk' hl _ _ _ hv
    revert this
    generalize (execOp (mkA n ρ ds).eval o).run P w=res
    intro this
    match res,this with
    | .ok (.value v) w',t=>exact hm v w' t
    | .ok .skip w',t=>exact hm _ w' t
    | .ok (.enter f args) w',t=>exact callP_mono t hm
    | .ok (.round l f tmps as bd) w',t=>exact RoundIn.mono t fun e w' ⟨v,he,x⟩=>⟨v,he,hm v w' x⟩
   cases g with
   | none=>simp only [gateOf,if_true];exact hins h
   | some p =>
    obtain ⟨s,want⟩:=p
    simp only [vcOps] at h
    cases hgate:gate (ρ s) want with
    | true=>simp only [hgate,gateOf,if_true] at h ⊢; exact hins h
    | false =>
     simp only [hgate,gateOf,Bool.false_eq_true,if_false] at h ⊢
     refine ⟨fun f _=>trivial, ?_⟩
     rw [mkA_put]
     exact ih (k+1) l' hk' hl _ _ _ h
  ·contradiction
theorem lift_mono {Q Q':QT} (h:∀e ρ ds w,Q e ρ ds w→Q' e ρ ds w):∀e a w,lift n Q e a w→lift n Q' e a w :=
 fun e _ w ⟨ρ,ds,ea,q⟩=>⟨ρ,ds,ea,h e ρ ds w q⟩
theorem least (S:Nat→Prop):∀m,S m→∃k,S k∧∀j,S j→k≤j:=by
 intro m
 induction m using Nat.strongRecOn with
 | _ m ih =>
  intro hm
  by_cases h:∃j,j<m∧S j
  ·obtain ⟨j,hj,hs⟩:=h;exact ih j hj hs
  ·exact ⟨m,hm,fun j hj=>Nat.le_of_not_lt fun hlt=>h ⟨j,hlt,hj⟩⟩
theorem vc_sound (c:Code):∀(Q:QT) (ρ:Env) (ds:List Deferred) (w:World),vc P ro n (comp P n c) Q ρ ds w→c.wpIn (FW ro) 0 P (lift n Q) (mkA n ρ ds) w:=by
 induction c with
 | skip=>intro Q ρ ds w h;exact wpIn_skip ⟨ρ,ds,rfl,h⟩
 | label l=>intro Q ρ ds w h;exact wpIn_label ⟨ρ,ds,rfl,h⟩
 | exit id=>intro Q ρ ds w h;exact wpIn_exit ⟨ρ,ds,rfl,h⟩
 | ret=>intro Q ρ ds w h;exact wpIn_ret ⟨ρ,ds,rfl,h⟩
 | seq a b iha ihb =>
  intro Q ρ ds w h
  refine wpIn_seq (wpIn_mono (iha _ ρ ds w h) ?_)
  rintro e _ w' ⟨ρ',ds',rfl,q⟩
  cases e with
  | normal=>exact ihb Q ρ' ds' w' q
  | _=>exact ⟨ρ',ds',rfl,q⟩
 | cond c a b iha ihb =>
  intro Q ρ ds w h
  simp only [comp] at h
  split at h
  ·rename_i hb
   simp only [vc,condP] at h
   have hc:=mkA_eval n ρ ds c hb
   split at h
   ·rename_i he;exact wpIn_cond (t:=true) (hc.trans he) (iha Q ρ ds w h)
   ·rename_i he;exact wpIn_cond (t:=false) (hc.trans he) (ihb Q ρ ds w h)
   ·exact h.elim
  ·exact h
 | block id b ih =>
  intro Q ρ ds w h
  refine wpIn_block (wpIn_mono (ih _ ρ ds w h) ?_)
  rintro e _ w' ⟨ρ',ds',rfl,q⟩
  cases e with
  | exit j =>
   simp only [blockQ] at q
   simp only [Exit.inBlock]
   split
   ·rename_i hj;rw [if_pos hj] at q;exact ⟨ρ',ds',rfl,q⟩
   ·rename_i hj;rw [if_neg hj] at q;exact ⟨ρ',ds',rfl,q⟩
  | _=>exact ⟨ρ',ds',rfl,q⟩
 | loop b ih =>
  intro Q ρ ds w h
  obtain ⟨I,⟨m,hm⟩,hround⟩:=h
  let S:Act→World→Nat→Prop:=fun a w m => ∃ρ ds,a=mkA n ρ ds∧I m ρ ds w
  let μ:Act→World→Nat:=fun a w=>open Classical in if h:∃m,S a w m then Classical.choose (least (S a w) _ h.choose_spec) else 0
  have hμ:∀a w m,S a w m→μ a w≤m:=by
   intro a w m hs
   have hex:∃m,S a w m:=⟨m,hs⟩
   simp only [μ,dif_pos hex]
   exact (Classical.choose_spec (least (S a w) _ hex.choose_spec)).2 m hs
  refine wpIn_loop (fun a w => ∃m,S a w m) μ ⟨m,ρ,ds,rfl,hm⟩ ?_
  intro a w' hex
  have hfind:S a w' (μ a w'):=by
   simp only [μ,dif_pos hex]
   exact (Classical.choose_spec (least (S a w') _ hex.choose_spec)).1
  obtain ⟨ρ',ds',ea,hI⟩:=hfind
  have hb:=ih _ ρ' ds' w' (hround _ ρ' ds' w' hI)
  rw [ea]
  refine wpIn_mono hb ?_
  rintro e _ w'' ⟨ρ₂,ds₂,rfl,q⟩
  cases e with
  | normal =>
   obtain ⟨m',hlt,hI'⟩:=q
   refine ⟨⟨m',ρ₂,ds₂,rfl,hI'⟩, ?_⟩
   rw [← ea]
   exact Nat.lt_of_le_of_lt (hμ _ _ _ ⟨ρ₂,ds₂,rfl,hI'⟩) hlt
  | _=>exact ⟨ρ₂,ds₂,rfl,q⟩
 | region id ops draw =>
  intro Q ρ ds w h
  cases draw with
  | false =>
   simp only [comp] at h
   split at h
   ·rename_i l hl
    refine wpIn_region ?_
    rw [List.range_eq_range',← Array.length_toList]
    exact sound_ops ops.toList 0 l (by simp) hl ρ ds w h
   ·exact h
  | true =>
   simp only [comp] at h
   split at h
   ·exact wpIn_region_draw h
   ·exact h
 | rangeFunc f params asg body _ _=>intro Q ρ ds w h;exact h
 | scope b _=>intro Q ρ ds w h;exact h
 | goto l=>intro Q ρ ds w h;exact h
 | refuse s=>intro Q ρ ds w h;exact h
variable {P:Program} {ro:Option Nat} {n:Nat}
inductive RV where
 | tmp (t:Nat)
 | c1 (a:Nat)
 | cN (a n:Nat)
 | bad
def compRV (P:Program) (n:Nat):ResultVar→RV
 | .tmp t=>if t<n then .tmp t else .bad
 | .cell a t=>if a<n then (match csz P t,aggOf P t with|some s,some g=>if g then .cN a s else .c1 a|_,_=>.bad) else .bad
def resO (k:Value→Prop) (o:Nat):Option Obj→Prop
 | some (.cells c _ _)=>(match c[o]? with|some v=>k v|none=>False)
 | _=>False
def resNO (k:Value→Prop) (o n:Nat):Option Obj→Prop
 | some (.cells c _ _)=>o+n≤c.size∧k (.agg (c.extract o (o+n)))
 | _=>False
def res1 (k:Value→Prop) (w:World):Value→Prop
 | .pointer (some ⟨b,o,none⟩)=>resO k o w.heap[b]?
 | _=>False
def resN (k:Value→Prop) (w:World) (n:Nat):Value→Prop
 | .pointer (some ⟨b,o,none⟩)=>resNO k o n w.heap[b]?
 | _=>False
def packed:List Value→Value
 | [v]=>v
 | l=>.tuple l.toArray
def resK (K:Value→World→Prop) (ρ:Env) (w:World):List RV→List Value→Prop
 | [],acc=>K (packed acc) w
 | .tmp t :: l,acc=>resK K ρ w l (acc ++ [ρ t])
 | .c1 a :: l,acc=>res1 (fun v=>resK K ρ w l (acc ++ [v])) w (ρ a)
 | .cN a n :: l,acc=>resN (fun v=>resK K ρ w l (acc ++ [v])) w n (ρ a)
 | .bad :: _,_=>False
def markO (P:Program) (K:World→Prop) (w:World) (r:Nat):Option Obj→Prop
 | some (.deferred (some []))=>K (set w r (.deferred none))
 | _=>False
def endK (P:Program) (res:List RV) (K:Value→World→Prop) (ρ:Env):List Deferred→World→Prop
 | [],w=>resK K ρ w res []
 | d :: ds,w=>match d.target with
  | .collected r=>markO P (endK P res K ρ ds) w r w.heap[r]?
  | _=>False
def endQ (P:Program) (res:List RV) (K:Value→World→Prop):QT
 | .normal,ρ,ds,w=>endK P res K ρ ds w
 | .ret,ρ,ds,w=>endK P res K ρ ds w
 | _,_,_,_=>False
def initE (args:List Value):Env:=fun t=>(args[t]?).getD undef
theorem init_tm (args:List Value) (n:Nat) (h:args.length≤n):args.toArray ++ Array.replicate (n-args.toArray.size) undef=tm n (initE args):=by
 apply Array.ext
 ·simp [tm];omega
 ·intro i h1 h2
  have hi:i<n:=by simpa [tm] using h2
  simp only [tm,Array.getElem_map,Array.getElem_range,initE]
  by_cases hl:i<args.length
  ·rw [Array.getElem_append_left (by simpa using hl)]
   simp [hl]
  ·rw [Array.getElem_append_right (by simpa using Nat.le_of_not_lt hl)]
   simp [List.getElem?_eq_none (Nat.le_of_not_lt hl)]
def readRV (tmps:Array Value):ResultVar→Sem Value
 | .tmp t=>pure (tmps.getD t undef)
 | .cell a t=>do loadVar t (← asAddr (tmps.getD a undef))
theorem mapM_cons' {f:ResultVar→Sem Value} {x:ResultVar} {rs:List ResultVar} {v:Value} {vs:List Value} {w:World} (h1:(f x).run P w = .ok v w) (h2:(rs.mapM f).run P w = .ok vs w) :
  ((x :: rs).mapM f).run P w = .ok (v :: vs) w:=by
 rw [List.mapM_cons,Sem.run_bind,h1]
 simp only [Result.andThen]
 rw [Sem.run_bind,h2];rfl
theorem run_resvar {ρ:Env} {w:World} {K:Value→World→Prop}:∀(rs:List ResultVar) (acc:List Value),resK K ρ w (rs.map (compRV P n)) acc →
  ∃vs,(rs.mapM (readRV (tm n ρ))).run P w = .ok vs w∧K (packed (acc ++ vs)) w:=by
 intro rs
 induction rs with
 | nil=>intro acc h;exact ⟨[],rfl,by simpa [resK] using h⟩
 | cons x rs ih =>
  intro acc h
  cases x with
  | tmp t =>
   simp only [List.map_cons,compRV] at h
   split at h
   ·rename_i ht
    simp only [resK] at h
    obtain ⟨vs,e,k⟩:=ih _ h
    refine ⟨ρ t :: vs,mapM_cons' ?_ e,by simpa using k⟩
    simp only [readRV,tm_getD _ _ _ ht];rfl
   ·simp [resK] at h
  | cell a t =>
   simp only [List.map_cons,compRV] at h
   split at h
   ·rename_i ht
    split at h
    ·rename_i s g hs hg
     cases g with
     | true =>
      simp only [if_true,resK,resN] at h
      split at h
      ·rename_i b o ha
       unfold resNO at h
       split at h
       ·rename_i c t' f hb
        obtain ⟨hn,h⟩:=h
        obtain ⟨vs,e,k⟩:=ih _ h
        refine ⟨.agg (c.extract o (o+s)) :: vs,mapM_cons' ?_ e,by simpa using k⟩
        have hl:=loadCells_at (P:=P) (o:=o) hb s 0 #[] (by omega)
        simp only [readRV,tm_getD _ _ _ ht,ha,asAddr]
        simp [loadVar,Sem.run_bind,run_isAgg hg,run_sizeOf hs,Result.andThen,loadCells,hl,pure,Sem.run]
       ·exact h.elim
      ·exact h.elim
     | false =>
      simp only [Bool.false_eq_true,if_false,resK,res1] at h
      split at h
      ·rename_i b o ha
       unfold resO at h
       split at h
       ·rename_i c t' f hb
        split at h
        ·rename_i v hv'
         obtain ⟨vs,e,k⟩:=ih _ h
         refine ⟨v :: vs,mapM_cons' ?_ e,by simpa using k⟩
         simp only [readRV,tm_getD _ _ _ ht,ha,asAddr]
         simp [loadVar,Sem.run_bind,run_isAgg hg,Result.andThen,load_at (P:=P) hb hv',pure,Sem.run]
        ·exact h.elim
       ·exact h.elim
      ·exact h.elim
    ·simp [resK] at h
   ·simp [resK] at h
theorem run_results {fn:Func} {ρ:Env} {w:World} {K:Value→World→Prop} (h:resK K ρ w (fn.results.toList.map (compRV P n)) []) :
  ∃v,(results fn (tm n ρ)).run P w = .ok v w∧K v w:=by
 obtain ⟨vs,e,k⟩:=run_resvar _ _ h
 simp only [List.nil_append] at k
 refine ⟨packed vs, ?_,k⟩
 have e1:results fn (tm n ρ)=(do let vs ← fn.results.mapM (readRV (tm n ρ));pure (if h:vs.size=1 then vs[0] else .tuple vs)):=by
  unfold results
  congr 1
 rw [e1,Array.mapM_eq_mapM_toList,Sem.run_bind]
 have e2:(List.toArray <$> (fn.results.toList.mapM (readRV (tm n ρ)))).run P w = .ok vs.toArray w:=by
  change Sem.run P (_ >>= (pure ∘ List.toArray)) w=_
  rw [Sem.run_bind,e];rfl
 rw [e2]
 simp only [Result.andThen,pure,Sem.run]
 congr 1
 match vs with
 | []=>rfl
 | [v]=>rfl
 | v :: u :: l=>simp [packed]
theorem leaves_of_endK {fn:Func} {res:List RV} (hres:fn.results.toList.map (compRV P n)=res) {K:Value→World→Prop} {ρ:Env}:∀(ds:List Deferred) (w:World),endK P res K ρ ds w →
  LeavesInM Fence.wide 0 P fn (tm n ρ) (fun e w' => ∃v,e = .returned v∧K v w') ds .returning w:=by
 intro ds
 induction ds with
 | nil =>
  intro w h
  subst hres
  obtain ⟨v,e,k⟩:=run_results h
  exact ⟨v,e,v,rfl,k⟩
 | cons d ds ih =>
  intro w h
  unfold endK at h
  split at h
  ·rename_i r hr
   unfold markO at h
   split at h
   ·rename_i hk
    refine ⟨by simp,.inl ⟨r,_,hr, ?_,ih _ h⟩⟩
    simp [Instr.takeDeferred,getObj,setObj,Sem.run_bind,Sem.run,Result.andThen,hk,pure,set]
   ·exact h.elim
  ·exact h.elim
theorem ok_of_vc {f:FuncId} {fn:Func} {code:Code} {cc:CC} {res:List RV} {args:List Value} {w:World} {K:Value→World→Prop}
  (hf:P.funcs[f]? = some fn) (hb:fn.body=some code) (hn:fn.ntmps=n) (hok:okF P f=true) (hc:comp P n code=cc) (hres:fn.results.toList.map (compRV P n)=res) (hl:args.length≤n)
  (h:vc P none n cc (endQ P res K) (initE args) [] w):Ok P f args.toArray w K:=by
 refine ⟨hok, ?_⟩
 subst hc hn
 refine callsIn_of_wp_marks hf hb trivial ?_ rfl
 rw [init_tm _ _ hl]
 have:=vc_sound (P:=P) (ro:=none) code _ _ _ _ h
 refine wpIn_mono this ?_
 rintro e _ w' ⟨ρ,ds,rfl,q⟩
 cases e with
 | normal=>exact leaves_of_endK hres ds w' q
 | ret=>exact leaves_of_endK hres ds w' q
 | _=>exact q.elim
theorem nr {α:Sort _} {a b:α} (h:a=b):a=b:=h
section
variable {Q:QT} {ρ:Env} {ds:List Deferred} {w:World} {K:Env→List Deferred→World→Prop} {l:List In} {d:Option Nat} {i:Ins}
theorem vc_skip:vc P ro n .skip Q ρ ds w=Q .normal ρ ds w:=nr rfl
theorem vc_seq {a b:CC}:vc P ro n (.seq a b) Q ρ ds w=vc P ro n a (thenQ (vc P ro n b Q) Q) ρ ds w:=nr rfl
theorem vc_cond {c:Operand} {a b:CC}:vc P ro n (.cond c a b) Q ρ ds w=condP (vc P ro n a Q) (vc P ro n b Q) ρ ds w (ev ρ c):=nr rfl
theorem vc_block {id:Nat} {b:CC}:vc P ro n (.block id b) Q ρ ds w=vc P ro n b (blockQ id Q) ρ ds w:=nr rfl
theorem vc_exit {id:Nat}:vc P ro n (.exit id) Q ρ ds w=Q (.exit id) ρ ds w:=nr rfl
theorem vc_ret:vc P ro n .ret Q ρ ds w=Q .ret ρ ds w:=nr rfl
theorem vc_ops:vc P ro n (.ops l) Q ρ ds w=vcOps P l (Q .normal) ρ ds w:=nr rfl
theorem vcOps_nil:vcOps P [] K ρ ds w=K ρ ds w:=nr rfl
theorem vcOps_cons:vcOps P (⟨none,d,i⟩ :: l) K ρ ds w=insVc P (goL P l K ρ d ds) ρ ds w i:=nr rfl
theorem vcOps_gate {s:Nat} {want:Bool}:vcOps P (⟨some (s,want),d,i⟩ :: l) K ρ ds w=gateK P i l K ρ d ds w (gate (ρ s) want):=by
 simp only [vcOps];cases gate (ρ s) want <;> rfl
theorem gateK_true:gateK P i l K ρ d ds w true=insVc P (goL P l K ρ d ds) ρ ds w i:=nr rfl
theorem gateK_false:gateK P i l K ρ d ds w false=vcOps P l K (updO ρ d undef) ds w:=nr rfl
theorem gate_true (t:Bool):gate (.bool t) true=t:=by simp [gate]
theorem gate_false (t:Bool):gate (.bool t) false = !t:=by cases t <;> rfl
theorem gate_undef (want:Bool):gate undef want=false:=nr rfl
theorem goL_apply {v:Value}:goL P l K ρ d ds v w=vcOps P l K (updO ρ d v) ds w:=nr rfl
theorem thenQ_normal {N:Env→List Deferred→World→Prop}:thenQ N Q .normal ρ ds w=N ρ ds w:=nr rfl
theorem thenQ_ret {N:Env→List Deferred→World→Prop}:thenQ N Q .ret ρ ds w=Q .ret ρ ds w:=nr rfl
theorem thenQ_exit {N:Env→List Deferred→World→Prop} {id:Nat}:thenQ N Q (.exit id) ρ ds w=Q (.exit id) ρ ds w:=nr rfl
theorem blockQ_normal {id:Nat}:blockQ id Q .normal ρ ds w=Q .normal ρ ds w:=nr rfl
theorem blockQ_ret {id:Nat}:blockQ id Q .ret ρ ds w=Q .ret ρ ds w:=nr rfl
theorem blockQ_same {id:Nat}:blockQ id Q (.exit id) ρ ds w=Q .normal ρ ds w:=by simp [blockQ]
theorem blockQ_exit {id j:Nat} (h:j≠id):blockQ id Q (.exit j) ρ ds w=Q (.exit j) ρ ds w:=by simp [blockQ,h]
theorem condP_true {A B:Env→List Deferred→World→Prop}:condP A B ρ ds w (.bool true)=A ρ ds w:=nr rfl
theorem condP_false {A B:Env→List Deferred→World→Prop}:condP A B ρ ds w (.bool false)=B ρ ds w:=nr rfl
theorem condP_split {A B:Env→List Deferred→World→Prop} {t:Bool} (h1:t=true→A ρ ds w) (h2:t=false→B ρ ds w):condP A B ρ ds w (.bool t):=by
 cases t
 ·exact h2 rfl
 ·exact h1 rfl
theorem gateK_split {t:Bool} (h1:t=true→insVc P (goL P l K ρ d ds) ρ ds w i) (h2:t=false→vcOps P l K (updO ρ d undef) ds w):gateK P i l K ρ d ds w t:=by
 cases t
 ·exact h2 rfl
 ·exact h1 rfl
theorem upd_same {a:Nat} {v:Value}:upd ρ a v a=v:=by simp [upd]
theorem upd_other {a b:Nat} {v:Value} (h:b≠a):upd ρ a v b=ρ b:=by simp [upd,h]
theorem updO_some {a:Nat} {v:Value}:updO ρ (some a) v=upd ρ a v:=nr rfl
theorem updO_none {v:Value}:updO ρ none v=ρ:=nr rfl
theorem ev_tmp {t:Nat}:ev ρ (.tmp t)=ρ t:=nr rfl
theorem ev_const {v:Value}:ev ρ (.const v)=v:=nr rfl
theorem ev_global {g:Nat}:ev ρ (.global g) = .pointer (some ⟨g,0,none⟩):=nr rfl
theorem ev_func {f:Nat}:ev ρ (.func f) = .func (.func f) #[] #[]:=nr rfl
theorem endQ_ret {res:List RV} {K:Value→World→Prop}:endQ P res K .ret ρ ds w=endK P res K ρ ds w:=nr rfl
theorem endQ_normal {res:List RV} {K:Value→World→Prop}:endQ P res K .normal ρ ds w=endK P res K ρ ds w:=nr rfl
theorem initE_at {args:List Value} {t:Nat}:initE args t=(args[t]?).getD undef:=nr rfl
end
def bodyOf (fn:Func):Code:=fn.body.getD .skip
def sub:Code→List Nat→Code
 | .seq a _,0 :: p=>sub a p
 | .seq _ b,1 :: p=>sub b p
 | .cond _ a _,0 :: p=>sub a p
 | .cond _ _ b,1 :: p=>sub b p
 | .block _ a,0 :: p=>sub a p
 | .loop a,0 :: p=>sub a p
 | .rangeFunc _ _ a _,0 :: p=>sub a p
 | .rangeFunc _ _ _ b,1 :: p=>sub b p
 | c,_=>c
def opsOf:Code→Array Oper
 | .region _ ops _=>ops
 | _ => #[]
def FnOk (P:Program) (f n:Nat) (cc:CC) (rs:List RV):Prop :=
 ∃fn,P.funcs[f]? = some fn∧fn.body=some (bodyOf fn)∧fn.ntmps=n∧okF P f=true∧comp P n (bodyOf fn)=cc∧fn.results.toList.map (compRV P n)=rs
theorem FnOk.enter {P:Program} {f n:Nat} {cc:CC} {rs:List RV} (h:FnOk P f n cc rs) {args:List Value} {w:World} {K:Value→World→Prop} (hl:args.length≤n)
  (hv:vc P none n cc (endQ P rs K) (initE args) [] w):Ok P f args.toArray w K:=by
 obtain ⟨fn,h1,h2,h3,h4,h5,h6⟩:=h
 exact ok_of_vc h1 h2 h3 h4 h5 h6 hl hv
theorem FnOk.o {P:Program} {f n:Nat} {cc:CC} {rs:List RV} {fn:Func} (h1:P.funcs[f]? = some fn) (h2:fn.body=some (bodyOf fn):=by kernel_rfl) (h3:fn.ntmps=n:=by kernel_rfl) (h4:okF P f=true:=by kernel_rfl) (h5:comp P n (bodyOf fn)=cc:=by kernel_rfl) (h6:fn.results.toList.map (compRV P n)=rs:=by kernel_rfl):FnOk P f n cc rs:=⟨fn,h1,h2,h3,h4,h5,h6⟩
abbrev mvt (d s:Nat):In:=⟨none,some d,.mv (.tmp s)⟩
end Go.Vc
