import Derived.Test.YtcbacomljnjacaaGreatDoorVkA
set_option linter.unusedSimpArgs false
set_option linter.unusedVariables false
set_option linter.unusedSectionVars false
set_option linter.unnecessarySimpa false
namespace Go.Oct
open Go Go.Vc Go.VrA Go.VrI
set_option maxRecDepth 100000
def eqQ2 (a b : Qu) : Bool:=(a.name.toList == b.name.toList) && (((a.most : Int) == (b.most : Int)) && (((a.ttl : Int) == (b.ttl : Int)) && (((a.tries : Int) == (b.tries : Int)) && ((a.dead.toList == b.dead.toList) && true))))
def eqB2 (a b : Bi) : Bool:=(a.ex.toList == b.ex.toList) && ((a.kind == b.kind) && ((a.key.toList == b.key.toList) && ((a.q.toList == b.q.toList) && true)))
def eqCm (a b : Cm) : Bool:=(a.kind == b.kind) && (eqQ2 a.q b.q && (eqB2 a.b b.b && ((a.ex.toList == b.ex.toList) && ((a.key.toList == b.key.toList) && ((a.body.toList == b.body.toList) && (((a.id : Int) == (b.id : Int)) && (((a.token : Int) == (b.token : Int)) && (((a.n : Int) == (b.n : Int)) && (((a.time : Int) == (b.time : Int)) && ((a.dead == b.dead) && true))))))))))
theorem eqr_qu (d : Nat) (a b : Qu) : EqR Proofs.Tryz.prog (d + 1 + 1) 121 (.agg a.cells.toArray) (.agg b.cells.toArray) (eqQ2 a b):=by
  have hs : Proofs.Tryz.prog.underlying 9 = some .string:=by kernel_rfl
  have h32 : Proofs.Tryz.prog.underlying 55 = some (.int .u32):=by kernel_rfl
  have h64 : Proofs.Tryz.prog.underlying 27 = some (.int .u64):=by kernel_rfl
  refine EqR.struct (by kernel_rfl) (by kernel_rfl) (L:=[(9,0),(55,1),(27,2),(55,3),(9,4)]) (by kernel_rfl) (by kernel_rfl) ?_
  refine ⟨_,_,_,_,.one (by kernel_rfl) rfl,.one (by kernel_rfl) rfl,.str hs _ _, ?_,rfl⟩
  refine ⟨_,_,_,_,.one (by kernel_rfl) rfl,.one (by kernel_rfl) rfl,.int h32 _ _, ?_,rfl⟩
  refine ⟨_,_,_,_,.one (by kernel_rfl) rfl,.one (by kernel_rfl) rfl,.int h64 _ _, ?_,rfl⟩
  refine ⟨_,_,_,_,.one (by kernel_rfl) rfl,.one (by kernel_rfl) rfl,.int h32 _ _, ?_,rfl⟩
  exact ⟨_,_,_,_,.one (by kernel_rfl) rfl,.one (by kernel_rfl) rfl,.str hs _ _,rfl,rfl⟩
theorem eqr_bi (d : Nat) (a b : Bi) : EqR Proofs.Tryz.prog (d + 1 + 1) 124 (.agg a.cells.toArray) (.agg b.cells.toArray) (eqB2 a b):=by
  have hs : Proofs.Tryz.prog.underlying 9 = some .string:=by kernel_rfl
  have hi : Proofs.Tryz.prog.underlying 3 = some (.int .i64):=by kernel_rfl
  refine EqR.struct (by kernel_rfl) (by kernel_rfl) (L:=[(9,0),(3,1),(9,2),(9,3)]) (by kernel_rfl) (by kernel_rfl) ?_
  refine ⟨_,_,_,_,.one (by kernel_rfl) rfl,.one (by kernel_rfl) rfl,.str hs _ _, ?_,rfl⟩
  refine ⟨_,_,_,_,.one (by kernel_rfl) rfl,.one (by kernel_rfl) rfl,.int hi _ _, ?_,rfl⟩
  refine ⟨_,_,_,_,.one (by kernel_rfl) rfl,.one (by kernel_rfl) rfl,.str hs _ _, ?_,rfl⟩
  exact ⟨_,_,_,_,.one (by kernel_rfl) rfl,.one (by kernel_rfl) rfl,.str hs _ _,rfl,rfl⟩
theorem eqr_cm (a b : Cm) : EqR Proofs.Tryz.prog 10000 126 (.agg a.cells.toArray) (.agg b.cells.toArray) (eqCm a b):=by
  have hs : Proofs.Tryz.prog.underlying 9 = some .string:=by kernel_rfl
  have hi : Proofs.Tryz.prog.underlying 3 = some (.int .i64):=by kernel_rfl
  have h64 : Proofs.Tryz.prog.underlying 27 = some (.int .u64):=by kernel_rfl
  have hb : Proofs.Tryz.prog.underlying 4 = some .bool:=by kernel_rfl
  refine EqR.struct (d:=9999) (by kernel_rfl) (by kernel_rfl) (L:=[(3,0),(121,1),(124,6),(9,10),(9,11),(9,12),(27,13),(27,14),(27,15),(27,16),(4,17)]) (by kernel_rfl) (by kernel_rfl) ?_
  refine ⟨_,_,_,_,.one (by kernel_rfl) rfl,.one (by kernel_rfl) rfl,.int hi _ _, ?_,rfl⟩
  refine ⟨_,_,_,_,.agg (s:=5) (by kernel_rfl) (by kernel_rfl) (by simp [Cm.cells]),.agg (s:=5) (by kernel_rfl) (by kernel_rfl) (by simp [Cm.cells]),eqr_qu 9997 a.q b.q, ?_,rfl⟩
  refine ⟨_,_,_,_,.agg (s:=4) (by kernel_rfl) (by kernel_rfl) (by simp [Cm.cells]),.agg (s:=4) (by kernel_rfl) (by kernel_rfl) (by simp [Cm.cells]),eqr_bi 9997 a.b b.b, ?_,rfl⟩
  refine ⟨_,_,_,_,.one (by kernel_rfl) rfl,.one (by kernel_rfl) rfl,.str hs _ _, ?_,rfl⟩
  refine ⟨_,_,_,_,.one (by kernel_rfl) rfl,.one (by kernel_rfl) rfl,.str hs _ _, ?_,rfl⟩
  refine ⟨_,_,_,_,.one (by kernel_rfl) rfl,.one (by kernel_rfl) rfl,.str hs _ _, ?_,rfl⟩
  refine ⟨_,_,_,_,.one (by kernel_rfl) rfl,.one (by kernel_rfl) rfl,.int h64 _ _, ?_,rfl⟩
  refine ⟨_,_,_,_,.one (by kernel_rfl) rfl,.one (by kernel_rfl) rfl,.int h64 _ _, ?_,rfl⟩
  refine ⟨_,_,_,_,.one (by kernel_rfl) rfl,.one (by kernel_rfl) rfl,.int h64 _ _, ?_,rfl⟩
  refine ⟨_,_,_,_,.one (by kernel_rfl) rfl,.one (by kernel_rfl) rfl,.int h64 _ _, ?_,rfl⟩
  exact ⟨_,_,_,_,.one (by kernel_rfl) rfl,.one (by kernel_rfl) rfl,.bool hb _ _,rfl,rfl⟩
section
variable {P : Program} {n : Nat} {go : Value→World→Prop} {ρ : Env} {ds : List Deferred} {w : World} {o : Oper}
theorem rawK_max5 {x1 x2 x3 x4 x5 : Operand} {t1 t2 t3 t4 t5 : TypeId} {a1 a2 a3 a4 a5 : Int} (ho : o.op = .call { callee:=.builtin .max,args:=#[x1,x2,x3,x4,x5],argTypes:=#[t1,t2,t3,t4,t5] })
    (h1 : inB n x1 = true) (h2 : inB n x2 = true) (h3 : inB n x3 = true) (h4 : inB n x4 = true) (h5 : inB n x5 = true) (e1 : ev ρ x1 = .int .i64 a1) (e2 : ev ρ x2 = .int .i64 a2) (e3 : ev ρ x3 = .int .i64 a3) (e4 : ev ρ x4 = .int .i64 a4) (e5 : ev ρ x5 = .int .i64 a5)
    (h : go (.int .i64 (max (max (max (max a1 a2) a3) a4) a5)) w) : RawK P go ρ ds n o w:=by
  unfold RawK
  simp only [execOp,ho,resolve,Sem.run_bind,pure,Sem.run,Result.andThen,invoke,builtin]
  have e : (#[x1,x2,x3,x4,x5] : Array Operand).map (mkA n ρ ds).eval = #[.int .i64 a1,.int .i64 a2,.int .i64 a3,.int .i64 a4,.int .i64 a5]:=by simp [mkA_eval n ρ ds x1 h1,mkA_eval n ρ ds x2 h2,mkA_eval n ρ ds x3 h3,mkA_eval n ρ ds x4 h4,mkA_eval n ρ ds x5 h5,e1,e2,e3,e4,e5]
  rw [e]
  have em : ∀ a b : Int,(if b > a then b else a) = max a b:=by intros; omega
  simp only [Builtin.max_,List.foldlM_cons,List.foldlM_nil,Sem.run_bind,Builtin.max2,pure,Sem.run,Result.andThen,em]
  exact h
end
def Cm.long (c : Cm) : Bool :=
  decide (32 < max (max (max (max c.q.name.size c.q.dead.size) c.b.ex.size) c.b.q.size) c.ex.size) || (decide (512 < max c.key.size c.b.key.size) || decide (32768 < c.body.size))
theorem long_c (c : Cm) (w : World) (K : Value→World→Prop) (h : ∀ w',Mod (fun _=>False) w w'→K (.bool c.long) w') : Ok Proofs.Tryz.prog 95 #[c.val] w K:=by
  refine F95.enter (args:=[c.val]) (by simp) ?_
  unfold c95 r95
  simp only [ZB,insVc,load1K,faddrK,lenSK,Value.cells,ne_eq,Nat.reduceEqDiff,Nat.reduceAdd,Zaf,Za,Zag,Zah,Zab,get_alloc,Nat.reduceAdd,Nat.reduceEqDiff,Cm.val,Cm.cells]
  refine rawK_max5 rfl rfl rfl rfl rfl rfl (by simp only [ZB,ne_eq,Nat.reduceEqDiff] <;> rfl) (by simp only [ZB,ne_eq,Nat.reduceEqDiff] <;> rfl) (by simp only [ZB,ne_eq,Nat.reduceEqDiff] <;> rfl) (by simp only [ZB,ne_eq,Nat.reduceEqDiff] <;> rfl) (by simp only [ZB] <;> rfl) ?_
  have hm : Mod (fun _=>False) w (w.alloc (.cells #[.int .i64 c.kind,.string c.q.name,.int .u32 c.q.most,.int .u64 c.q.ttl,.int .u32 c.q.tries,.string c.q.dead,.string c.b.ex,.int .i64 c.b.kind,.string c.b.key,.string c.b.q,.string c.ex,.string c.key,.string c.body,.int .u64 c.id,.int .u64 c.token,.int .u64 c.n,.int .u64 c.time,.bool c.dead] 126)):=(Mod.refl _ _).alloc _
  have hh:=h _ hm
  by_cases h1 : max (max (max (max (c.q.name.size : Int) c.q.dead.size) c.b.ex.size) c.b.q.size) c.ex.size > 32
  · have e1 : c.long = true:=by unfold Cm.long; rw [decide_eq_true (by omega)]; rfl
    rw [e1] at hh
    simp only [ZB,endK,resK,packed,insVc,pickK,iopK,iopV,ne_eq,Nat.reduceEqDiff,reduceCtorEq,Zaa,Zab,Nat.reduceEqDiff,h1]
    exact hh
  · have e1 : decide (32 < max (max (max (max c.q.name.size c.q.dead.size) c.b.ex.size) c.b.q.size) c.ex.size) = false:=decide_eq_false (by omega)
    simp only [ZB,insVc,load1K,iopK,iopV,faddrK,lenSK,ne_eq,Nat.reduceEqDiff,Nat.reduceAdd,reduceCtorEq,Za,Zag,Zah,Zab,get_alloc,Nat.reduceAdd,Nat.reduceEqDiff,h1]
    refine rawK_max rfl rfl rfl (by simp only [ZB,ne_eq,Nat.reduceEqDiff] <;> rfl) (by simp only [ZB] <;> rfl) ?_
    by_cases h2 : max (c.key.size : Int) c.b.key.size > 512
    · have e2 : c.long = true:=by unfold Cm.long; rw [e1,decide_eq_true (by omega)]; rfl
      rw [e2] at hh
      simp only [ZB,endK,resK,packed,insVc,pickK,iopK,iopV,ne_eq,Nat.reduceEqDiff,reduceCtorEq,Zaa,Zab,Zae,Nat.reduceEqDiff,h2]
      exact hh
    · have e2 : decide (512 < max c.key.size c.b.key.size) = false:=decide_eq_false (by omega)
      by_cases h3 : (c.body.size : Int) > 32768
      · have e3 : c.long = true:=by unfold Cm.long; rw [e1,e2,decide_eq_true (by omega)]; rfl
        rw [e3] at hh
        simp only [ZB,endK,resK,packed,insVc,pickK,load1K,iopK,iopV,faddrK,lenSK,ne_eq,Nat.reduceEqDiff,reduceCtorEq,Za,Zag,Zah,Zaa,Zab,Zae,get_alloc,Nat.reduceEqDiff,h2,h3]
        exact hh
      · have e3 : c.long = false:=by unfold Cm.long; rw [e1,e2,decide_eq_false (by omega)]; rfl
        rw [e3] at hh
        simp only [ZB,endK,resK,packed,insVc,pickK,load1K,iopK,iopV,faddrK,lenSK,ne_eq,Nat.reduceEqDiff,reduceCtorEq,Za,Zag,Zah,Zaa,Zab,Zae,get_alloc,Nat.reduceEqDiff,h2,h3]
        exact hh
end Go.Oct
