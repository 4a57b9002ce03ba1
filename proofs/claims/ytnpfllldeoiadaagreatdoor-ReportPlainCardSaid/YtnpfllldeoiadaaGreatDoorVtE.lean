import Derived.Test.YtnpfllldeoiadaaGreatDoorVtB
import Derived.Test.YtnpfllldeoiadaaGreatDoorVcT
import Derived.Test.YtnpfllldeoiadaaGreatDoorVoH
import Derived.SizedLaws
set_option linter.unusedSimpArgs false
set_option linter.unusedVariables false
set_option linter.unusedSectionVars false
set_option linter.unnecessarySimpa false
namespace Go.Vc
open Go Go.ChangeShapes

section
variable {H : Type} {enc : TypeId × Value → H} {P : Program} {W : World} {base : Nat} {spare : Nat → Bool} {held : Bool}

theorem slice_T {α : Type} {t e : TypeId} {fuel : Nat} {x : DataW H × List MemPlace} {v : Value} (cells : α → List Value) (G : α → Prop) (s : Nat) (hs : 0 < s) (ht : P.underlying t = some (.slice e)) (hc : P.cellsOf e = s)
    (each : ∀ (n : Nat) cs y, DataW.trod enc P W base spare held n e cs = some y → ∃ v, cs = cells v ∧ G v) (h : DataW.trod enc P W base spare held fuel t [v] = some x) :
    ∃ l : List α, IsT cells s W v l ∧ (∀ y ∈ l, G y) ∧ l.length ≤ maxLen := by
  have hv : ∃ a len cap, v = .slice a len cap := by
    rcases DataW.trod_slice ht h with ⟨h0, _⟩ | ⟨a, len', cap', elems, rest, n, _, h0, _⟩
    · exact ⟨_, _, _, by simpa using h0⟩
    · exact ⟨_, _, _, by simpa using h0⟩
  obtain ⟨a, len, cap, rfl⟩ := hv
  obtain ⟨l, hl, hg, _, hlc, hcm, hat⟩ := slice_list cells G s hs ht hc each h
  exact ⟨l, IsT.of_list hl hat, hg, by omega⟩

theorem int_lit {k : IntKind} {e : TypeId} (hu : P.underlying e = some (.int k)) (n : Nat) (cs : List Value) (y : DataW H × List MemPlace) (h : DataW.trod enc P W base spare held n e cs = some y) : ∃ z : Int, cs = [.int k z] ∧ (Lit.int k z).wf = true := by
  obtain ⟨z, h1, _, h2⟩ := DataW.trod_int hu h
  exact ⟨z, h1, h2⟩
end
end Go.Vc

namespace Go.Oct
open Go Go.Vc Go.ChangeShapes
set_option maxRecDepth 100000

/-! ### queues, bindings, replies, dumps, reports: opened -/

structure Bd where
  ex : ByteArray
  kind : Int
  key : ByteArray
  queue : ByteArray
def Bd.cells (b : Bd) : List Value := [.string b.ex, .int .i64 b.kind, .string b.key, .string b.queue]
def i64ok (z : Int) : Prop := -9223372036854775808 ≤ z ∧ z ≤ 9223372036854775807
def u64C (n : Nat) : List Value := [.int .u64 n]
def u32C (n : Nat) : List Value := [.int .u32 n]

section
variable {H : Type} {enc : TypeId × Value → H} {W : World} {base : Nat} {spare : Nat → Bool} {held : Bool}

theorem us : Proofs.Tryz.prog.underlying 9 = some .string := by kernel_rfl
theorem u64 : Proofs.Tryz.prog.underlying 23 = some (.int .u64) := by kernel_rfl
theorem u32 : Proofs.Tryz.prog.underlying 39 = some (.int .u32) := by kernel_rfl
theorem i64 : Proofs.Tryz.prog.underlying 3 = some (.int .i64) := by kernel_rfl
theorem czs : Proofs.Tryz.prog.cellsOf 9 = 1 := by kernel_rfl
theorem cz64 : Proofs.Tryz.prog.cellsOf 23 = 1 := by kernel_rfl
theorem cz32 : Proofs.Tryz.prog.cellsOf 39 = 1 := by kernel_rfl
theorem czi : Proofs.Tryz.prog.cellsOf 3 = 1 := by kernel_rfl

theorem wf_i64 {n : Int} (h : (Lit.int .i64 n).wf = true) : i64ok n := by
  simp only [Lit.wf, Bool.and_eq_true, decide_eq_true_eq, IntKind.min, IntKind.max, IntKind.signed, IntKind.bits] at h
  simp at h
  exact ⟨by omega, by omega⟩

theorem trod_u64 (n : Nat) (cs : List Value) (y : DataW H × List MemPlace) (h : DataW.trod enc Proofs.Tryz.prog W base spare held n 23 cs = some y) : ∃ k : Nat, cs = u64C k ∧ k < 2 ^ 64 := by
  obtain ⟨z, h1, h2⟩ := int_lit u64 n cs y h
  obtain ⟨k, rfl, hk⟩ := wf_u64 h2
  exact ⟨k, h1, hk⟩
theorem trod_u32 (n : Nat) (cs : List Value) (y : DataW H × List MemPlace) (h : DataW.trod enc Proofs.Tryz.prog W base spare held n 39 cs = some y) : ∃ k : Nat, cs = u32C k ∧ k < 2 ^ 32 := by
  obtain ⟨z, h1, h2⟩ := int_lit u32 n cs y h
  obtain ⟨k, rfl, hk⟩ := wf_u32 h2
  exact ⟨k, h1, hk⟩

theorem trod_qu (n : Nat) (cs : List Value) (y : DataW H × List MemPlace) (h : DataW.trod enc Proofs.Tryz.prog W base spare held n 41 cs = some y) :
    ∃ q : Qu, cs = q.cells ∧ q.most < 2 ^ 32 ∧ q.ttl < 2 ^ 64 ∧ q.tries < 2 ^ 32 ∧ q.name.size ≤ maxLen ∧ q.dead.size ≤ maxLen := by
  have hu : Proofs.Tryz.prog.underlying 41 = some (.struct (Proofs.Tryz.prog.fieldsOf 41)) := by kernel_rfl
  obtain ⟨hl, hf⟩ := trod_fields hu [(9, 0), (39, 1), (23, 2), (39, 3), (9, 4)] (by kernel_rfl) h
  have c5 : Proofs.Tryz.prog.cellsOf 41 = 5 := by kernel_rfl
  rw [c5] at hl
  match cs, hl with
  | [x0, x1, x2, x3, x4], _ =>
    obtain ⟨_, _, h0⟩ := hf _ (List.mem_cons_self)
    obtain ⟨_, _, h1⟩ := hf (39, 1) (by simp)
    obtain ⟨_, _, h2⟩ := hf (23, 2) (by simp)
    obtain ⟨_, _, h3⟩ := hf (39, 3) (by simp)
    obtain ⟨_, _, h4⟩ := hf (9, 4) (by simp)
    simp only [czs, cz64, cz32, List.drop_zero, List.drop_succ_cons, List.take_succ_cons, List.take_zero] at h0 h1 h2 h3 h4
    obtain ⟨s0, e0, _, z0⟩ := DataW.trod_string us h0
    obtain ⟨k1, e1, b1⟩ := trod_u32 _ _ _ h1
    obtain ⟨k2, e2, b2⟩ := trod_u64 _ _ _ h2
    obtain ⟨k3, e3, b3⟩ := trod_u32 _ _ _ h3
    obtain ⟨s4, e4, _, z4⟩ := DataW.trod_string us h4
    simp only [u32C, u64C, List.cons.injEq, and_true] at e0 e1 e2 e3 e4
    subst e0 e1 e2 e3 e4
    exact ⟨⟨s0, k1, k2, k3, s4⟩, rfl, b1, b2, b3, z0, z4⟩

theorem trod_bd (n : Nat) (cs : List Value) (y : DataW H × List MemPlace) (h : DataW.trod enc Proofs.Tryz.prog W base spare held n 61 cs = some y) :
    ∃ b : Bd, cs = b.cells ∧ i64ok b.kind ∧ b.ex.size ≤ maxLen ∧ b.key.size ≤ maxLen ∧ b.queue.size ≤ maxLen := by
  have hu : Proofs.Tryz.prog.underlying 61 = some (.struct (Proofs.Tryz.prog.fieldsOf 61)) := by kernel_rfl
  obtain ⟨hl, hf⟩ := trod_fields hu [(9, 0), (3, 1), (9, 2), (9, 3)] (by kernel_rfl) h
  have c5 : Proofs.Tryz.prog.cellsOf 61 = 4 := by kernel_rfl
  rw [c5] at hl
  match cs, hl with
  | [x0, x1, x2, x3], _ =>
    obtain ⟨_, _, h0⟩ := hf _ (List.mem_cons_self)
    obtain ⟨_, _, h1⟩ := hf (3, 1) (by simp)
    obtain ⟨_, _, h2⟩ := hf (9, 2) (by simp)
    obtain ⟨_, _, h3⟩ := hf (9, 3) (by simp)
    simp only [czs, czi, List.drop_zero, List.drop_succ_cons, List.take_succ_cons, List.take_zero] at h0 h1 h2 h3
    obtain ⟨s0, e0, _, z0⟩ := DataW.trod_string us h0
    obtain ⟨k1, e1, w1⟩ := int_lit i64 _ _ _ h1
    obtain ⟨s2, e2, _, z2⟩ := DataW.trod_string us h2
    obtain ⟨s3, e3, _, z3⟩ := DataW.trod_string us h3
    simp only [List.cons.injEq, and_true] at e0 e1 e2 e3
    subst e0 e1 e2 e3
    exact ⟨⟨s0, k1, s2, s3⟩, rfl, wf_i64 w1, z0, z2, z3⟩

/-- a reply, in memory. -/
structure Ry where
  err : Int
  n : Nat
  ids : List Nat
  lost : List Nat
  dead : List Nat
  list : List Ms
def Ms.any' (q : Ms) : Prop := q.id < 2 ^ 64 ∧ q.expiry < 2 ^ 64 ∧ q.tries < 2 ^ 32 ∧ q.queue.size ≤ maxLen ∧ q.body.size ≤ maxLen
def Qu.any' (q : Qu) : Prop := q.most < 2 ^ 32 ∧ q.ttl < 2 ^ 64 ∧ q.tries < 2 ^ 32 ∧ q.name.size ≤ maxLen ∧ q.dead.size ≤ maxLen
def Bd.any' (b : Bd) : Prop := i64ok b.kind ∧ b.ex.size ≤ maxLen ∧ b.key.size ≤ maxLen ∧ b.queue.size ≤ maxLen
def lt64 (n : Nat) : Prop := n < 2 ^ 64
def lt32 (n : Nat) : Prop := n < 2 ^ 32
structure IsRy (w : World) (v1 v2 v3 v4 : Value) (r : Ry) : Prop where
  e : i64ok r.err
  n : r.n < 2 ^ 64
  ids : IsT u64C 1 w v1 r.ids
  lost : IsT u64C 1 w v2 r.lost
  dead : IsT u64C 1 w v3 r.dead
  list : IsT Ms.cells 5 w v4 r.list
  g1 : ∀ y ∈ r.ids, lt64 y
  g2 : ∀ y ∈ r.lost, lt64 y
  g3 : ∀ y ∈ r.dead, lt64 y
  g4 : ∀ y ∈ r.list, y.any'
  l4 : r.list.length ≤ maxLen
theorem IsRy.keep {w w' : World} {v1 v2 v3 v4 : Value} {r : Ry} (h : IsRy w v1 v2 v3 v4 r) (hm : Mod (fun _ => False) w w') : IsRy w' v1 v2 v3 v4 r :=
  { h with ids := h.ids.keep hm, lost := h.lost.keep hm, dead := h.dead.keep hm, list := h.list.keep hm }

theorem trod_ry (n : Nat) (cs : List Value) (y : DataW H × List MemPlace) (h : DataW.trod enc Proofs.Tryz.prog W base spare held n 27 cs = some y) :
    ∃ v1 v2 v3 v4 r, cs = [.int .i64 r.err, .int .u64 r.n, v1, v2, v3, v4] ∧ IsRy W v1 v2 v3 v4 r := by
  have hu : Proofs.Tryz.prog.underlying 27 = some (.struct (Proofs.Tryz.prog.fieldsOf 27)) := by kernel_rfl
  have he : Proofs.Tryz.prog.underlying 22 = some (.int .i64) := by kernel_rfl
  have ce : Proofs.Tryz.prog.cellsOf 22 = 1 := by kernel_rfl
  have sl : Proofs.Tryz.prog.underlying 24 = some (.slice 23) := by kernel_rfl
  have sm : Proofs.Tryz.prog.underlying 25 = some (.slice 44) := by kernel_rfl
  have csl : Proofs.Tryz.prog.cellsOf 24 = 1 := by kernel_rfl
  have csm : Proofs.Tryz.prog.cellsOf 25 = 1 := by kernel_rfl
  have cm : Proofs.Tryz.prog.cellsOf 44 = 5 := by kernel_rfl
  obtain ⟨hl, hf⟩ := trod_fields hu [(22, 0), (23, 1), (24, 2), (24, 3), (24, 4), (25, 5)] (by kernel_rfl) h
  have c5 : Proofs.Tryz.prog.cellsOf 27 = 6 := by kernel_rfl
  rw [c5] at hl
  match cs, hl with
  | [x0, x1, x2, x3, x4, x5], _ =>
    obtain ⟨_, _, h0⟩ := hf _ (List.mem_cons_self)
    obtain ⟨_, _, h1⟩ := hf (23, 1) (by simp)
    obtain ⟨_, _, h2⟩ := hf (24, 2) (by simp)
    obtain ⟨_, _, h3⟩ := hf (24, 3) (by simp)
    obtain ⟨_, _, h4⟩ := hf (24, 4) (by simp)
    obtain ⟨_, _, h5⟩ := hf (25, 5) (by simp)
    simp only [ce, cz64, csl, csm, List.drop_zero, List.drop_succ_cons, List.take_succ_cons, List.take_zero] at h0 h1 h2 h3 h4 h5
    obtain ⟨k0, e0, w0⟩ := int_lit he _ _ _ h0
    obtain ⟨k1, e1, b1⟩ := trod_u64 _ _ _ h1
    obtain ⟨l2, t2, g2, _⟩ := slice_T u64C lt64 1 (by decide) sl cz64 trod_u64 h2
    obtain ⟨l3, t3, g3, _⟩ := slice_T u64C lt64 1 (by decide) sl cz64 trod_u64 h3
    obtain ⟨l4, t4, g4, _⟩ := slice_T u64C lt64 1 (by decide) sl cz64 trod_u64 h4
    obtain ⟨l5, t5, g5, m5⟩ := slice_T Ms.cells Ms.any' 5 (by decide) sm cm trod_ms h5
    simp only [u64C, List.cons.injEq, and_true] at e0 e1
    subst e0 e1
    exact ⟨x2, x3, x4, x5, ⟨k0, k1, l2, l3, l4, l5⟩, rfl, wf_i64 w0, b1, t2, t3, t4, t5, g2, g3, g4, g5, m5⟩

/-- a dump, in memory. -/
structure Du where
  clock : Nat
  last : Nat
  qs : List Qu
  bs : List Bd
  ms : List Ms
structure IsDu (w : World) (v1 v2 v3 : Value) (d : Du) : Prop where
  c : d.clock < 2 ^ 64
  l : d.last < 2 ^ 64
  qs : IsT Qu.cells 5 w v1 d.qs
  bs : IsT Bd.cells 4 w v2 d.bs
  ms : IsT Ms.cells 5 w v3 d.ms
  g1 : ∀ y ∈ d.qs, y.any'
  g2 : ∀ y ∈ d.bs, y.any'
  g3 : ∀ y ∈ d.ms, y.any'
  l1 : d.qs.length ≤ maxLen
  l2 : d.bs.length ≤ maxLen
  l3 : d.ms.length ≤ maxLen
theorem IsDu.keep {w w' : World} {v1 v2 v3 : Value} {d : Du} (h : IsDu w v1 v2 v3 d) (hm : Mod (fun _ => False) w w') : IsDu w' v1 v2 v3 d :=
  { h with qs := h.qs.keep hm, bs := h.bs.keep hm, ms := h.ms.keep hm }

theorem trod_du (n : Nat) (cs : List Value) (y : DataW H × List MemPlace) (h : DataW.trod enc Proofs.Tryz.prog W base spare held n 31 cs = some y) :
    ∃ v1 v2 v3 d, cs = [.int .u64 d.clock, .int .u64 d.last, v1, v2, v3] ∧ IsDu W v1 v2 v3 d := by
  have hu : Proofs.Tryz.prog.underlying 31 = some (.struct (Proofs.Tryz.prog.fieldsOf 31)) := by kernel_rfl
  have sq : Proofs.Tryz.prog.underlying 28 = some (.slice 41) := by kernel_rfl
  have sb : Proofs.Tryz.prog.underlying 29 = some (.slice 61) := by kernel_rfl
  have sm : Proofs.Tryz.prog.underlying 25 = some (.slice 44) := by kernel_rfl
  have csq : Proofs.Tryz.prog.cellsOf 28 = 1 := by kernel_rfl
  have csb : Proofs.Tryz.prog.cellsOf 29 = 1 := by kernel_rfl
  have csm : Proofs.Tryz.prog.cellsOf 25 = 1 := by kernel_rfl
  have cq : Proofs.Tryz.prog.cellsOf 41 = 5 := by kernel_rfl
  have cb : Proofs.Tryz.prog.cellsOf 61 = 4 := by kernel_rfl
  have cm : Proofs.Tryz.prog.cellsOf 44 = 5 := by kernel_rfl
  obtain ⟨hl, hf⟩ := trod_fields hu [(23, 0), (23, 1), (28, 2), (29, 3), (25, 4)] (by kernel_rfl) h
  have c5 : Proofs.Tryz.prog.cellsOf 31 = 5 := by kernel_rfl
  rw [c5] at hl
  match cs, hl with
  | [x0, x1, x2, x3, x4], _ =>
    obtain ⟨_, _, h0⟩ := hf _ (List.mem_cons_self)
    obtain ⟨_, _, h1⟩ := hf (23, 1) (by simp)
    obtain ⟨_, _, h2⟩ := hf (28, 2) (by simp)
    obtain ⟨_, _, h3⟩ := hf (29, 3) (by simp)
    obtain ⟨_, _, h4⟩ := hf (25, 4) (by simp)
    simp only [cz64, csq, csb, csm, List.drop_zero, List.drop_succ_cons, List.take_succ_cons, List.take_zero] at h0 h1 h2 h3 h4
    obtain ⟨k0, e0, b0⟩ := trod_u64 _ _ _ h0
    obtain ⟨k1, e1, b1⟩ := trod_u64 _ _ _ h1
    obtain ⟨l2, t2, g2, m2⟩ := slice_T Qu.cells Qu.any' 5 (by decide) sq cq trod_qu h2
    obtain ⟨l3, t3, g3, m3⟩ := slice_T Bd.cells Bd.any' 4 (by decide) sb cb trod_bd h3
    obtain ⟨l4, t4, g4, m4⟩ := slice_T Ms.cells Ms.any' 5 (by decide) sm cm trod_ms h4
    simp only [u64C, List.cons.injEq, and_true] at e0 e1
    subst e0 e1
    exact ⟨x2, x3, x4, ⟨k0, k1, l2, l3, l4⟩, rfl, b0, b1, t2, t3, t4, g2, g3, g4, m2, m3, m4⟩

/-- a look's report, in memory. -/
structure Rt where
  tree : List Nat
  chains : List Nat
  ledger : List Nat
  free : List Nat
  lost : List Nat
  twice : List Nat
  pairs : Int
  bytes : Nat
  depth : Int
structure IsRt (w : World) (v1 v2 v3 v4 v5 v6 : Value) (r : Rt) : Prop where
  p : i64ok r.pairs
  b : r.bytes < 2 ^ 64
  d : i64ok r.depth
  t1 : IsT u32C 1 w v1 r.tree
  t2 : IsT u32C 1 w v2 r.chains
  t3 : IsT u32C 1 w v3 r.ledger
  t4 : IsT u32C 1 w v4 r.free
  t5 : IsT u32C 1 w v5 r.lost
  t6 : IsT u32C 1 w v6 r.twice
  g5 : ∀ y ∈ r.lost, lt32 y
  g6 : ∀ y ∈ r.twice, lt32 y
theorem IsRt.keep {w w' : World} {v1 v2 v3 v4 v5 v6 : Value} {r : Rt} (h : IsRt w v1 v2 v3 v4 v5 v6 r) (hm : Mod (fun _ => False) w w') : IsRt w' v1 v2 v3 v4 v5 v6 r :=
  { h with t1 := h.t1.keep hm, t2 := h.t2.keep hm, t3 := h.t3.keep hm, t4 := h.t4.keep hm, t5 := h.t5.keep hm, t6 := h.t6.keep hm }

theorem trod_rt (n : Nat) (cs : List Value) (y : DataW H × List MemPlace) (h : DataW.trod enc Proofs.Tryz.prog W base spare held n 34 cs = some y) :
    ∃ v1 v2 v3 v4 v5 v6 r, cs = [v1, v2, v3, v4, v5, v6, .int .i64 r.pairs, .int .u64 r.bytes, .int .i64 r.depth] ∧ IsRt W v1 v2 v3 v4 v5 v6 r := by
  have hu : Proofs.Tryz.prog.underlying 34 = some (.struct (Proofs.Tryz.prog.fieldsOf 34)) := by kernel_rfl
  have sl : Proofs.Tryz.prog.underlying 32 = some (.slice 39) := by kernel_rfl
  have csl : Proofs.Tryz.prog.cellsOf 32 = 1 := by kernel_rfl
  obtain ⟨hl, hf⟩ := trod_fields hu [(32, 0), (32, 1), (32, 2), (32, 3), (32, 4), (32, 5), (3, 6), (23, 7), (3, 8)] (by kernel_rfl) h
  have c5 : Proofs.Tryz.prog.cellsOf 34 = 9 := by kernel_rfl
  rw [c5] at hl
  match cs, hl with
  | [x0, x1, x2, x3, x4, x5, x6, x7, x8], _ =>
    obtain ⟨_, _, h0⟩ := hf _ (List.mem_cons_self)
    obtain ⟨_, _, h1⟩ := hf (32, 1) (by simp)
    obtain ⟨_, _, h2⟩ := hf (32, 2) (by simp)
    obtain ⟨_, _, h3⟩ := hf (32, 3) (by simp)
    obtain ⟨_, _, h4⟩ := hf (32, 4) (by simp)
    obtain ⟨_, _, h5⟩ := hf (32, 5) (by simp)
    obtain ⟨_, _, h6⟩ := hf (3, 6) (by simp)
    obtain ⟨_, _, h7⟩ := hf (23, 7) (by simp)
    obtain ⟨_, _, h8⟩ := hf (3, 8) (by simp)
    simp only [cz64, czi, csl, List.drop_zero, List.drop_succ_cons, List.take_succ_cons, List.take_zero] at h0 h1 h2 h3 h4 h5 h6 h7 h8
    obtain ⟨l0, t0, _, _⟩ := slice_T u32C lt32 1 (by decide) sl cz32 trod_u32 h0
    obtain ⟨l1, t1, _, _⟩ := slice_T u32C lt32 1 (by decide) sl cz32 trod_u32 h1
    obtain ⟨l2, t2, _, _⟩ := slice_T u32C lt32 1 (by decide) sl cz32 trod_u32 h2
    obtain ⟨l3, t3, _, _⟩ := slice_T u32C lt32 1 (by decide) sl cz32 trod_u32 h3
    obtain ⟨l4, t4, g4, _⟩ := slice_T u32C lt32 1 (by decide) sl cz32 trod_u32 h4
    obtain ⟨l5, t5, g5, _⟩ := slice_T u32C lt32 1 (by decide) sl cz32 trod_u32 h5
    obtain ⟨k6, e6, w6⟩ := int_lit i64 _ _ _ h6
    obtain ⟨k7, e7, b7⟩ := trod_u64 _ _ _ h7
    obtain ⟨k8, e8, w8⟩ := int_lit i64 _ _ _ h8
    simp only [u64C, List.cons.injEq, and_true] at e6 e7 e8
    subst e6 e7 e8
    exact ⟨x0, x1, x2, x3, x4, x5, ⟨l0, l1, l2, l3, l4, l5, k6, k7, k8⟩, rfl, wf_i64 w6, b7, wf_i64 w8, t0, t1, t2, t3, t4, t5, g4, g5⟩
end
end Go.Oct

namespace Go.Oct
open Go Go.Vc Go.ChangeShapes
set_option maxRecDepth 100000

section
variable {H : Type} {enc : TypeId × Value → H} {W : World} {base : Nat} {spare : Nat → Bool} {held : Bool}

/-- a slice's length, by its weight. -/
theorem slice_weight {t e : TypeId} {fuel : Nat} {y : DataW H × List MemPlace} {a : Option Addr} {len cap : Nat} (ht : Proofs.Tryz.prog.underlying t = some (.slice e)) (he : 1 ≤ Proofs.Tryz.prog.bytesOf e)
    (h : DataW.trod enc Proofs.Tryz.prog W base spare held fuel t [.slice a len cap] = some y) (hw : ∀ k ∈ DataW.weights Proofs.Tryz.prog t y.1, k ≤ reachBytes) : len ≤ reachBytes := by
  rcases DataW.trod_slice ht h with ⟨h0, _⟩ | ⟨a', len', cap', elems, rest, n, _, h0, rfl, _, _, _, hlen, _⟩
  · simp at h0
    obtain ⟨_, rfl, _⟩ := h0
    exact Nat.zero_le _
  · simp at h0
    obtain ⟨_, rfl, _⟩ := h0
    have := hw ((elems.length + rest.length) * Proofs.Tryz.prog.bytesOf e) (by
      simp [DataW.weights, ht])
    have h2 : (elems.length + rest.length) * 1 ≤ (elems.length + rest.length) * Proofs.Tryz.prog.bytesOf e := Nat.mul_le_mul_left _ he
    omega

theorem field_weight {t : TypeId} {fs : Array Field} {fuel : Nat} {cs : List Value} {y : DataW H × List MemPlace} (ht : Proofs.Tryz.prog.underlying t = some (.struct fs)) (h : DataW.trod enc Proofs.Tryz.prog W base spare held fuel t cs = some y) (hw : ∀ k ∈ DataW.weights Proofs.Tryz.prog t y.1, k ≤ reachBytes)
    (j : Nat) (tj : TypeId) (off : Nat) (hj : (fs.toList.map fun f => (f.type, f.offset))[j]? = some (tj, off)) :
    ∃ n yj, DataW.trod enc Proofs.Tryz.prog W base spare held n tj ((cs.drop off).take (Proofs.Tryz.prog.cellsOf tj)) = some yj ∧ ∀ k ∈ DataW.weights Proofs.Tryz.prog tj yj.1, k ≤ reachBytes := by
  obtain ⟨xs, n, _, rfl, _, hxl, hf⟩ := DataW.trod_struct ht h
  rw [List.getElem?_map] at hj
  obtain ⟨f, hfj, he⟩ := Option.map_eq_some_iff.1 hj
  simp only [Prod.mk.injEq] at he
  obtain ⟨rfl, rfl⟩ := he
  have hfj' : fs[j]? = some f := by simpa using hfj
  have hlt : j < xs.length := by have := (Array.getElem?_eq_some_iff.1 hfj').1; omega
  have hx := hf j f hfj'
  rw [List.getElem?_eq_getElem hlt] at hx
  refine ⟨n, xs[j], hx, fun k hk => hw k ?_⟩
  simp only [DataW.weights, ht]
  exact DataW.weights_mem_each (ts := fs.toList.map (·.type)) (ds := xs.map (·.1)) (j := j) (t := f.type) (d := xs[j].1) (by rw [List.getElem?_map, hfj]; rfl) (by rw [List.getElem?_map, List.getElem?_eq_getElem hlt]; rfl) k hk

theorem du_weight (n : Nat) (x0 x1 : Value) (a1 a2 a3 : Option Addr) (n1 n2 n3 c1 c2 c3 : Nat) (y : DataW H × List MemPlace) (h : DataW.trod enc Proofs.Tryz.prog W base spare held n 31 [x0, x1, .slice a1 n1 c1, .slice a2 n2 c2, .slice a3 n3 c3] = some y)
    (hw : ∀ k ∈ DataW.weights Proofs.Tryz.prog 31 y.1, k ≤ reachBytes) : n1 ≤ reachBytes ∧ n2 ≤ reachBytes ∧ n3 ≤ reachBytes := by
  have hu : Proofs.Tryz.prog.underlying 31 = some (.struct (Proofs.Tryz.prog.fieldsOf 31)) := by kernel_rfl
  have hfs : ((Proofs.Tryz.prog.fieldsOf 31).toList.map fun f => (f.type, f.offset)) = [(23, 0), (23, 1), (28, 2), (29, 3), (25, 4)] := by kernel_rfl
  have csq : Proofs.Tryz.prog.cellsOf 28 = 1 := by kernel_rfl
  have csb : Proofs.Tryz.prog.cellsOf 29 = 1 := by kernel_rfl
  have csm : Proofs.Tryz.prog.cellsOf 25 = 1 := by kernel_rfl
  have bq : 1 ≤ Proofs.Tryz.prog.bytesOf 41 := of_decide_eq_true (by kernel_rfl)
  have bb : 1 ≤ Proofs.Tryz.prog.bytesOf 61 := of_decide_eq_true (by kernel_rfl)
  have bm : 1 ≤ Proofs.Tryz.prog.bytesOf 44 := of_decide_eq_true (by kernel_rfl)
  obtain ⟨_, q2, h2, w2⟩ := field_weight hu h hw 2 28 2 (by rw [hfs]; rfl)
  obtain ⟨_, q3, h3, w3⟩ := field_weight hu h hw 3 29 3 (by rw [hfs]; rfl)
  obtain ⟨_, q4, h4, w4⟩ := field_weight hu h hw 4 25 4 (by rw [hfs]; rfl)
  simp only [csq, csb, csm, List.drop_zero, List.drop_succ_cons, List.take_succ_cons, List.take_zero] at h2 h3 h4
  exact ⟨slice_weight (by kernel_rfl : Proofs.Tryz.prog.underlying 28 = some (.slice 41)) bq h2 w2, slice_weight (by kernel_rfl : Proofs.Tryz.prog.underlying 29 = some (.slice 61)) bb h3 w3, slice_weight (by kernel_rfl : Proofs.Tryz.prog.underlying 25 = some (.slice 44)) bm h4 w4⟩
end
end Go.Oct
