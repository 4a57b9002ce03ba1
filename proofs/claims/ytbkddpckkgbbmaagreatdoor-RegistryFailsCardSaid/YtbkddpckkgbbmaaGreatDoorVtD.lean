import Derived.Test.YtbkddpckkgbbmaaGreatDoorVtB
import Derived.Test.YtbkddpckkgbbmaaGreatDoorVcT
import Derived.Test.YtbkddpckkgbbmaaGreatDoorVoH
set_option linter.unusedSimpArgs false
set_option linter.unusedVariables false
set_option linter.unusedSectionVars false
set_option linter.unnecessarySimpa false
namespace Go.Vc
open Go Go.ChangeShapes
section
variable {H : Type} {enc : TypeId × Value→H} {P : Program} {W : World} {base : Nat} {spare : Nat→Bool} {held : Bool}
theorem int_lit {k : IntKind} {e : TypeId} (hu : P.underlying e = some (.int k)) (n : Nat) (cs : List Value) (y : DataW H × List MemPlace) (h : DataW.trod enc P W base spare held n e cs = some y) : ∃ z : Int,cs = [.int k z]∧(Lit.int k z).wf = true:=by
  obtain ⟨z,h1,_,h2⟩:=DataW.trod_int hu h
  exact ⟨z,h1,h2⟩
end
end Go.Vc
namespace Go.Oct
open Go Go.Vc Go.ChangeShapes
set_option maxRecDepth 100000
structure Bd where
  ex : ByteArray
  kind : Int
  key : ByteArray
  queue : ByteArray
def Bd.cells (b : Bd) : List Value:=[.string b.ex,.int .i64 b.kind,.string b.key,.string b.queue]
def i64ok (z : Int) : Prop:=-9223372036854775808≤z∧z≤9223372036854775807
def u64C (n : Nat) : List Value:=[.int .u64 n]
def u32C (n : Nat) : List Value:=[.int .u32 n]
section
variable {H : Type} {enc : TypeId × Value→H} {W : World} {base : Nat} {spare : Nat→Bool} {held : Bool}
theorem us : Proofs.Tryz.prog.underlying 9 = some .string:=by kernel_rfl
theorem u64 : Proofs.Tryz.prog.underlying 31 = some (.int .u64):=by kernel_rfl
theorem u32 : Proofs.Tryz.prog.underlying 30 = some (.int .u32):=by kernel_rfl
theorem i64 : Proofs.Tryz.prog.underlying 3 = some (.int .i64):=by kernel_rfl
theorem czs : Proofs.Tryz.prog.cellsOf 9 = 1:=by kernel_rfl
theorem cz64 : Proofs.Tryz.prog.cellsOf 31 = 1:=by kernel_rfl
theorem cz32 : Proofs.Tryz.prog.cellsOf 30 = 1:=by kernel_rfl
theorem czi : Proofs.Tryz.prog.cellsOf 3 = 1:=by kernel_rfl
theorem wf_i64 {n : Int} (h : (Lit.int .i64 n).wf = true) : i64ok n:=by
  simp only [Lit.wf,Zbo,decide_eq_true_eq,IntKind.min,IntKind.max,IntKind.signed,IntKind.bits] at h
  simp at h
  exact ⟨by omega,by omega⟩
theorem trod_u64 (n : Nat) (cs : List Value) (y : DataW H × List MemPlace) (h : DataW.trod enc Proofs.Tryz.prog W base spare held n 31 cs = some y) : ∃ k : Nat,cs = u64C k∧k < 2 ^ 64:=by
  obtain ⟨z,h1,h2⟩:=int_lit u64 n cs y h
  obtain ⟨k,rfl,hk⟩:=wf_u64 h2
  exact ⟨k,h1,hk⟩
theorem trod_u32 (n : Nat) (cs : List Value) (y : DataW H × List MemPlace) (h : DataW.trod enc Proofs.Tryz.prog W base spare held n 30 cs = some y) : ∃ k : Nat,cs = u32C k∧k < 2 ^ 32:=by
  obtain ⟨z,h1,h2⟩:=int_lit u32 n cs y h
  obtain ⟨k,rfl,hk⟩:=wf_u32 h2
  exact ⟨k,h1,hk⟩
theorem trod_qu (n : Nat) (cs : List Value) (y : DataW H × List MemPlace) (h : DataW.trod enc Proofs.Tryz.prog W base spare held n 33 cs = some y) :
    ∃ q : Qu,cs = q.cells∧q.most < 2 ^ 32∧q.ttl < 2 ^ 64∧q.tries < 2 ^ 32∧q.name.size≤maxLen∧q.dead.size≤maxLen:=by
  have hu : Proofs.Tryz.prog.underlying 33 = some (.struct (Proofs.Tryz.prog.fieldsOf 33)):=by kernel_rfl
  obtain ⟨hl,hf⟩:=trod_fields hu [(9,0),(30,1),(31,2),(30,3),(9,4)] (by kernel_rfl) h
  have c5 : Proofs.Tryz.prog.cellsOf 33 = 5:=by kernel_rfl
  rw [c5] at hl
  match cs,hl with
  | [x0,x1,x2,x3,x4],_ =>
    obtain ⟨_,_,h0⟩:=hf _ (List.mem_cons_self)
    obtain ⟨_,_,h1⟩:=hf (30,1) (by simp)
    obtain ⟨_,_,h2⟩:=hf (31,2) (by simp)
    obtain ⟨_,_,h3⟩:=hf (30,3) (by simp)
    obtain ⟨_,_,h4⟩:=hf (9,4) (by simp)
    simp only [czs,cz64,cz32,Zav,Zbt,Zay,Zar] at h0 h1 h2 h3 h4
    obtain ⟨s0,e0,_,z0⟩:=DataW.trod_string us h0
    obtain ⟨k1,e1,b1⟩:=trod_u32 _ _ _ h1
    obtain ⟨k2,e2,b2⟩:=trod_u64 _ _ _ h2
    obtain ⟨k3,e3,b3⟩:=trod_u32 _ _ _ h3
    obtain ⟨s4,e4,_,z4⟩:=DataW.trod_string us h4
    simp only [u32C,u64C,List.cons.injEq,and_true] at e0 e1 e2 e3 e4
    subst e0 e1 e2 e3 e4
    exact ⟨⟨s0,k1,k2,k3,s4⟩,rfl,b1,b2,b3,z0,z4⟩
theorem trod_bd (n : Nat) (cs : List Value) (y : DataW H × List MemPlace) (h : DataW.trod enc Proofs.Tryz.prog W base spare held n 64 cs = some y) :
    ∃ b : Bd,cs = b.cells∧i64ok b.kind∧b.ex.size≤maxLen∧b.key.size≤maxLen∧b.queue.size≤maxLen:=by
  have hu : Proofs.Tryz.prog.underlying 64 = some (.struct (Proofs.Tryz.prog.fieldsOf 64)):=by kernel_rfl
  obtain ⟨hl,hf⟩:=trod_fields hu [(9,0),(3,1),(9,2),(9,3)] (by kernel_rfl) h
  have c5 : Proofs.Tryz.prog.cellsOf 64 = 4:=by kernel_rfl
  rw [c5] at hl
  match cs,hl with
  | [x0,x1,x2,x3],_ =>
    obtain ⟨_,_,h0⟩:=hf _ (List.mem_cons_self)
    obtain ⟨_,_,h1⟩:=hf (3,1) (by simp)
    obtain ⟨_,_,h2⟩:=hf (9,2) (by simp)
    obtain ⟨_,_,h3⟩:=hf (9,3) (by simp)
    simp only [czs,czi,Zav,Zbt,Zay,Zar] at h0 h1 h2 h3
    obtain ⟨s0,e0,_,z0⟩:=DataW.trod_string us h0
    obtain ⟨k1,e1,w1⟩:=int_lit i64 _ _ _ h1
    obtain ⟨s2,e2,_,z2⟩:=DataW.trod_string us h2
    obtain ⟨s3,e3,_,z3⟩:=DataW.trod_string us h3
    simp only [List.cons.injEq,and_true] at e0 e1 e2 e3
    subst e0 e1 e2 e3
    exact ⟨⟨s0,k1,s2,s3⟩,rfl,wf_i64 w1,z0,z2,z3⟩
structure Ry where
  err : Int
  n : Nat
  ids : List Nat
  lost : List Nat
  dead : List Nat
  list : List Ms
def Ms.any' (q : Ms) : Prop:=q.id < 2 ^ 64∧q.expiry < 2 ^ 64∧q.tries < 2 ^ 32∧q.queue.size≤maxLen∧q.body.size≤maxLen
def Qu.any' (q : Qu) : Prop:=q.most < 2 ^ 32∧q.ttl < 2 ^ 64∧q.tries < 2 ^ 32∧q.name.size≤maxLen∧q.dead.size≤maxLen
def Bd.any' (b : Bd) : Prop:=i64ok b.kind∧b.ex.size≤maxLen∧b.key.size≤maxLen∧b.queue.size≤maxLen
def lt64 (n : Nat) : Prop:=n < 2 ^ 64
def lt32 (n : Nat) : Prop:=n < 2 ^ 32
structure IsRy (w : World) (v1 v2 v3 v4 : Value) (r : Ry) : Prop where
  e : i64ok r.err
  n : r.n < 2 ^ 64
  ids : IsT u64C 1 w v1 r.ids
  lost : IsT u64C 1 w v2 r.lost
  dead : IsT u64C 1 w v3 r.dead
  list : IsT Ms.cells 5 w v4 r.list
  g1 : ∀ y ∈ r.ids,lt64 y
  g2 : ∀ y ∈ r.lost,lt64 y
  g3 : ∀ y ∈ r.dead,lt64 y
  g4 : ∀ y ∈ r.list,y.any'
  l4 : r.list.length≤maxLen
theorem IsRy.keep {w w' : World} {v1 v2 v3 v4 : Value} {r : Ry} (h : IsRy w v1 v2 v3 v4 r) (hm : Mod (fun _=>False) w w') : IsRy w' v1 v2 v3 v4 r :=
  { h with ids:=h.ids.keep hm,lost:=h.lost.keep hm,dead:=h.dead.keep hm,list:=h.list.keep hm }
structure Du where
  clock : Nat
  last : Nat
  qs : List Qu
  bs : List Bd
  ms : List Ms
structure IsDu (w : World) (v1 v2 v3 : Value) (d : Du) : Prop where
  c : d.clock < 2 ^ 64
  l : d.last < 2 ^ 64
  qs : IsT Qu.cells 5 w v1 d.qs
  bs : IsT Bd.cells 4 w v2 d.bs
  ms : IsT Ms.cells 5 w v3 d.ms
  g1 : ∀ y ∈ d.qs,y.any'
  g2 : ∀ y ∈ d.bs,y.any'
  g3 : ∀ y ∈ d.ms,y.any'
  l1 : d.qs.length≤maxLen
  l2 : d.bs.length≤maxLen
  l3 : d.ms.length≤maxLen
theorem IsDu.keep {w w' : World} {v1 v2 v3 : Value} {d : Du} (h : IsDu w v1 v2 v3 d) (hm : Mod (fun _=>False) w w') : IsDu w' v1 v2 v3 d :=
  { h with qs:=h.qs.keep hm,bs:=h.bs.keep hm,ms:=h.ms.keep hm }
structure Rt where
  tree : List Nat
  chains : List Nat
  ledger : List Nat
  free : List Nat
  lost : List Nat
  twice : List Nat
  pairs : Int
  bytes : Nat
  depth : Int
structure IsRt (w : World) (v1 v2 v3 v4 v5 v6 : Value) (r : Rt) : Prop where
  p : i64ok r.pairs
  b : r.bytes < 2 ^ 64
  d : i64ok r.depth
  t1 : IsT u32C 1 w v1 r.tree
  t2 : IsT u32C 1 w v2 r.chains
  t3 : IsT u32C 1 w v3 r.ledger
  t4 : IsT u32C 1 w v4 r.free
  t5 : IsT u32C 1 w v5 r.lost
  t6 : IsT u32C 1 w v6 r.twice
  g5 : ∀ y ∈ r.lost,lt32 y
  g6 : ∀ y ∈ r.twice,lt32 y
theorem IsRt.keep {w w' : World} {v1 v2 v3 v4 v5 v6 : Value} {r : Rt} (h : IsRt w v1 v2 v3 v4 v5 v6 r) (hm : Mod (fun _=>False) w w') : IsRt w' v1 v2 v3 v4 v5 v6 r :=
  { h with t1:=h.t1.keep hm,t2:=h.t2.keep hm,t3:=h.t3.keep hm,t4:=h.t4.keep hm,t5:=h.t5.keep hm,t6:=h.t6.keep hm }
end
end Go.Oct
