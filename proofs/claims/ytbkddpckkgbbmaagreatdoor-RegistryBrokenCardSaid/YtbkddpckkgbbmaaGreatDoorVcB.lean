import Derived.Test.YtbkddpckkgbbmaaGreatDoorVcA
namespace Go.Vc
open Go

/-! ### operations, resolved -/

inductive Ins where
  | mv (x : Operand)
  | pick (c a b : Operand)
  | alloc (t : TypeId) (zero : Value)
  | box (t : TypeId) (x : Operand)
  | load1 (x : Operand)
  | loadN (n : Nat) (x : Operand)
  | store1 (x v : Operand)
  | storeN (n : Nat) (x v : Operand)
  | nilc (x : Operand)
  | iop (op : BinOp) (x y : Operand)
  | sop (op : BinOp) (x y : Operand)
  | bop (neq : Bool) (x y : Operand)
  | pnil (k : Nat) (neq : Bool) (x : Operand)
  | not (x : Operand)
  | conv (k : IntKind) (x : Operand)
  | same (x : Operand)
  | mkI (t : TypeId) (x : Operand)
  | mkF (fn : Fn) (first captured : List Operand)
  | faddr (off : Nat) (x : Operand)
  | fld1 (off : Nat) (x : Operand)
  | fldN (off n : Nat) (x : Operand)
  | iaddr (sz : Nat) (x i : Operand)
  | iaddrA (len sz : Nat) (x i : Operand)
  | sidx (x i : Operand)
  | ext (x : Operand) (i : Nat)
  | lenS (x : Operand)
  | lenL (x : Operand)
  | call (f : FuncId) (args : List Operand)
  | callv (x : Operand) (args : List Operand)
  | inv (x : Operand) (name : String) (args : List Operand)
  | build (zero : List Value) (parts : List (Nat × Nat × Operand))
  | buildS (t : TypeId) (len : Nat) (zero : List Value) (parts : List (Nat × Nat × Operand))
  | slS (x : Operand) (lo hi : Option Operand)
  | slL (sz : Nat) (x : Operand) (lo hi : Option Operand)
  | slA (n sz : Nat) (x : Operand) (lo hi : Option Operand)
  | raw (n : Nat) (o : Oper)
  deriving Inhabited

structure In where
  g : Option (Nat × Bool)
  d : Option Nat
  i : Ins
  deriving Inhabited

def isPlain : Value → Bool
  | .agg _ | .tuple _ => false
  | _ => true

/-- the parts of a literal laid into its cells. -/
def fillL (ρ : Env) : List (Nat × Nat × Operand) → Array Value → Option (Array Value)
  | [], cs => some cs
  | (off, n, x) :: rest, cs =>
    if (ev ρ x).cells.size = n ∧ off + n ≤ cs.size then fillL ρ rest ((ev ρ x).cells.toList.zipIdx.foldl (fun a (c, j) => a.setIfInBounds (off + j) c) cs) else none

/-- a function with a Go body. -/
def okF (P : Program) (f : FuncId) : Bool :=
  match P.funcs[f]? with
  | some fn => !(fn.name == "runtime.NumGoroutine") && fn.body.isSome
  | none => false
/-- f may be called, returns, and K of what. -/
def Ok (P : Program) (f : FuncId) (args : Array Value) (w : World) (K : Value → World → Prop) : Prop := okF P f = true ∧ CallP P f args w K
theorem Ok.mono {P : Program} {f : FuncId} {args : Array Value} {w : World} {K K' : Value → World → Prop} (h : Ok P f args w K) (hk : ∀ v w', K v w' → K' v w') : Ok P f args w K' := ⟨h.1, callP_mono h.2 hk⟩

section
variable (P : Program) (go : Value → World → Prop)

def pickK (w : World) (a b : Value) : Value → Prop
  | .bool t => go (if t then a else b) w
  | _ => False
def loadV (w : World) : Option Value → Prop
  | some v => go v w
  | none => False
def loadO (w : World) (o : Nat) : Option Obj → Prop
  | some (.cells c _ _) => loadV go w c[o]?
  | _ => False
def load1K (w : World) : Value → Prop
  | .pointer (some ⟨b, o, none⟩) => loadO go w o w.heap[b]?
  | _ => False
def loadNO (w : World) (o n : Nat) : Option Obj → Prop
  | some (.cells c _ _) => o + n ≤ c.size ∧ go (.agg (c.extract o (o + n))) w
  | _ => False
def loadNK (w : World) (n : Nat) : Value → Prop
  | .pointer (some ⟨b, o, none⟩) => loadNO go w o n w.heap[b]?
  | _ => False
def storeO (w : World) (b o : Nat) (v : Value) : Option Obj → Prop
  | some (.cells c t f) => (o < c.size ∧ (decide (f.1 ≤ o) && decide (o < f.2)) = false ∧ isPlain v = true) ∧ go undef (set w b (.cells (c.setIfInBounds o v) t f))
  | _ => False
def storeK (w : World) (v : Value) : Value → Prop
  | .pointer (some ⟨b, o, none⟩) => storeO go w b o v w.heap[b]?
  | _ => False
def setMany (c : Array Value) (o : Nat) : List Value → Array Value
  | [] => c
  | v :: l => setMany (c.setIfInBounds o v) (o + 1) l
def storeNO (w : World) (b o n : Nat) (cs : Array Value) : Option Obj → Prop
  | some (.cells c t f) => (cs.size = n ∧ o + n ≤ c.size ∧ f = (0, 0) ∧ cs.all isPlain = true) ∧ go undef (set w b (.cells (setMany c o cs.toList) t f))
  | _ => False
def storeNK (w : World) (n : Nat) : Value → Value → Prop
  | .pointer (some ⟨b, o, none⟩), .agg cs => storeNO go w b o n cs w.heap[b]?
  | _, _ => False
/-- the receiver of a method value is not nil. -/
def nilM (nm : String) : Option Value → Prop
  | some (.iface t v) => ∀ w, (nilAhead (P.types.size + Made.depth) t v nm).run P w = .ok (some false) w
  | _ => False
def nilK (w : World) : Value → Prop
  | .pointer (some a) => go (.pointer (some a)) w
  | .func (.func f) first cap => go (.func (.func f) first cap) w
  | .func (.yield l) first cap => go (.func (.yield l) first cap) w
  | .func (.method nm) first cap => nilM P nm first[0]? ∧ go (.func (.method nm) first cap) w
  | _ => False
def iopV (k : IntKind) (m n : Int) : BinOp → Option Value
  | .add => some (.int k (k.wrap (m + n)))
  | .sub => some (.int k (k.wrap (m - n)))
  | .mul => some (.int k (k.wrap (m * n)))
  | .quo => if n = 0 then none else some (.int k (k.wrap (m.tdiv n)))
  | .rem => if n = 0 then none else some (.int k (m.tmod n))
  | .eql => some (.bool (m == n))
  | .neq => some (.bool (m != n))
  | .lss => some (.bool (m < n))
  | .leq => some (.bool (m ≤ n))
  | .gtr => some (.bool (m > n))
  | .geq => some (.bool (m ≥ n))
  | .and => some (.int k (k.wrap (BitVec.ofInt k.bits m &&& BitVec.ofInt k.bits n).toNat))
  | .or => some (.int k (k.wrap (BitVec.ofInt k.bits m ||| BitVec.ofInt k.bits n).toNat))
  | .xor => some (.int k (k.wrap (BitVec.ofInt k.bits m ^^^ BitVec.ofInt k.bits n).toNat))
  | .andNot => some (.int k (k.wrap (BitVec.ofInt k.bits m &&& ~~~(BitVec.ofInt k.bits n)).toNat))
  | .shl => if n < 0 then none else some (.int k (k.wrap (m * 2 ^ (min n.toNat k.bits))))
  | .shr => if n < 0 then none else some (.int k (m.fdiv (2 ^ (min n.toNat k.bits))))
def iopK (w : World) (op : BinOp) : Value → Value → Prop
  | .int k m, .int k' n => (k = k' ∨ op = .shl ∨ op = .shr) ∧ loadV go w (iopV k m n op)
  | _, _ => False
def sopV (a b : ByteArray) : BinOp → Option Value
  | .add => if ((a.size + b.size : Nat) : Int) > IntKind.i64.max then none else some (.string (a ++ b))
  | .eql => some (.bool (a.toList == b.toList))
  | .neq => some (.bool !(a.toList == b.toList))
  | .lss => some (.bool (Op.bytesLess a.toList b.toList))
  | .leq => some (.bool (Op.bytesLess a.toList b.toList || a.toList == b.toList))
  | .gtr => some (.bool !(Op.bytesLess a.toList b.toList || a.toList == b.toList))
  | .geq => some (.bool !Op.bytesLess a.toList b.toList)
  | _ => none
def sopK (w : World) (op : BinOp) : Value → Value → Prop
  | .string a, .string b => loadV go w (sopV a b op)
  | _, _ => False
def bopK (w : World) (neq : Bool) : Value → Value → Prop
  | .bool a, .bool b => go (.bool (if neq then a != b else a == b)) w
  | _, _ => False
/-- is it nil? (by the kind of its type: pointer, slice, map, func, interface) -/
def nilOf : Nat → Value → Option Bool
  | 0, .pointer p => some p.isNone
  | 1, .slice a _ _ => some a.isNone
  | 2, .map r => some r.isNone
  | 3, .nilFunc => some true
  | 3, .func _ _ _ => some false
  | 4, .nilIface => some true
  | 4, .iface _ _ => some false
  | _, _ => none
def pnilK (w : World) (neq : Bool) : Option Bool → Prop
  | some t => go (.bool (if neq then !t else t)) w
  | none => False
def notK (w : World) : Value → Prop
  | .bool t => go (.bool !t) w
  | _ => False
def convK (w : World) (k : IntKind) : Value → Prop
  | .int _ n => go (.int k (k.wrap n)) w
  | _ => False
def sameK (w : World) : Value → Prop
  | .string s => go (.string s) w
  | _ => False
def faddrK (w : World) (off : Nat) : Value → Prop
  | .pointer (some ⟨b, o, none⟩) => go (.pointer (some ⟨b, o + off, none⟩)) w
  | _ => False
def fld1K (w : World) (off : Nat) : Value → Prop
  | .agg cs => loadV go w cs[off]?
  | _ => False
def fldNK (w : World) (off n : Nat) : Value → Prop
  | .agg cs => go (.agg (cs.extract off (off + n))) w
  | _ => False
def iaddrK (w : World) (sz : Nat) : Value → Value → Prop
  | .slice (some ⟨b, o, none⟩) len _, .int _ i => (0 ≤ i ∧ i < len) ∧ go (.pointer (some ⟨b, o + i.toNat * sz, none⟩)) w
  | _, _ => False
def iaddrAK (w : World) (len sz : Nat) : Value → Value → Prop
  | .pointer (some ⟨b, o, none⟩), .int _ i => (0 ≤ i ∧ i < len) ∧ go (.pointer (some ⟨b, o + i.toNat * sz, none⟩)) w
  | _, _ => False
def sidxK (w : World) : Value → Value → Prop
  | .string s, .int _ i => 0 ≤ i ∧ loadV go w (s.data[i.toNat]?.map fun b => .int .u8 b.toNat)
  | _, _ => False
def extK (w : World) (i : Nat) : Value → Prop
  | .tuple vs => loadV go w vs[i]?
  | _ => False
def lenSK (w : World) : Value → Prop
  | .string s => go (.int .i64 s.size) w
  | _ => False
def lenLK (w : World) : Value → Prop
  | .slice _ n _ => go (.int .i64 n) w
  | _ => False
/-- a call that is still to be met by a contract. -/
def CallK (f : FuncId) (args : List Value) (w : World) : Prop := Ok P f args.toArray w go
def YieldK (l : Nat) (args : List Value) (w : World) : Prop := upon P go ((Instr.yield l args.toArray).run P w)
def callvK (w : World) (args : List Value) : Value → Prop
  | .func (.func f) first cap => CallK P go f (first.toList ++ args ++ cap.toList) w
  | .func (.yield l) first _ => YieldK P go l (first.toList ++ args) w
  | _ => False
def InvK (t : TypeId) (v : Value) (name : String) (args : List Value) (w : World) : Prop :=
  ∃ f x, (method (P.types.size + Made.depth) t v name).run P w = .ok (f, x) w ∧ CallK P go f (x :: args) w
def invK (w : World) (name : String) (args : List Value) : Value → Prop
  | .iface t v => InvK P go t v name args w
  | _ => False
def buildK (w : World) : Option (Array Value) → Prop
  | some cs => go (.agg cs) w
  | none => False
def buildSK (w : World) (t : TypeId) (len : Nat) : Option (Array Value) → Prop
  | some cs => go (.slice (some ⟨w.heap.size, 0, none⟩) len len) (w.alloc (.cells cs t))
  | none => False
def boundOf (dflt : Nat) : Option Value → Option Int
  | none => some dflt
  | some (.int _ i) => some i
  | some _ => none
def slSK (w : World) : Value → Option Value → Option Value → Prop
  | .string s, lo, hi =>
    match boundOf 0 lo, boundOf s.size hi with
    | some l, some h => (0 ≤ l ∧ l ≤ h ∧ h ≤ s.size) ∧ go (.string (s.extract l.toNat h.toNat)) w
    | _, _ => False
  | _, _, _ => False
def slLK (w : World) (sz : Nat) : Value → Option Value → Option Value → Prop
  | .slice a len cap, lo, hi =>
    match boundOf 0 lo, boundOf len hi with
    | some l, some h => (0 ≤ l ∧ l ≤ h ∧ h ≤ cap) ∧ go (.slice (if cap = l.toNat then a else a.map (·.add (l.toNat * sz))) (h.toNat - l.toNat) (cap - l.toNat)) w
    | _, _ => False
  | _, _, _ => False
def slAK (w : World) (n sz : Nat) : Value → Option Value → Option Value → Prop
  | .pointer (some a), lo, hi =>
    match boundOf 0 lo, boundOf n hi with
    | some l, some h => (0 ≤ l ∧ l ≤ h ∧ h ≤ n) ∧ go (.slice (some (if n = l.toNat then a else a.add (l.toNat * sz))) (h.toNat - l.toNat) (n - l.toNat)) w
    | _, _ => False
  | _, _, _ => False
def RawK (ρ : Env) (ds : List Deferred) (n : Nat) (o : Oper) (w : World) : Prop := upon P go ((execOp (mkA n ρ ds).eval o).run P w)

def insVc (ρ : Env) (ds : List Deferred) (w : World) : Ins → Prop
  | .mv x => go (ev ρ x) w
  | .pick c a b => pickK go w (ev ρ a) (ev ρ b) (ev ρ c)
  | .alloc t zero => go (.pointer (some ⟨w.heap.size, 0, none⟩)) (w.alloc (.cells zero.cells t))
  | .box t x => go (.pointer (some ⟨w.heap.size, 0, none⟩)) (w.alloc (.cells (ev ρ x).cells t))
  | .load1 x => load1K go w (ev ρ x)
  | .loadN n x => loadNK go w n (ev ρ x)
  | .store1 x v => storeK go w (ev ρ v) (ev ρ x)
  | .storeN n x v => storeNK go w n (ev ρ x) (ev ρ v)
  | .nilc x => nilK P go w (ev ρ x)
  | .iop op x y => iopK go w op (ev ρ x) (ev ρ y)
  | .sop op x y => sopK go w op (ev ρ x) (ev ρ y)
  | .bop neq x y => bopK go w neq (ev ρ x) (ev ρ y)
  | .pnil k neq x => pnilK go w neq (nilOf k (ev ρ x))
  | .not x => notK go w (ev ρ x)
  | .conv k x => convK go w k (ev ρ x)
  | .same x => sameK go w (ev ρ x)
  | .mkI t x => go (.iface t (ev ρ x)) w
  | .mkF fn first cap => go (.func fn (first.map (ev ρ)).toArray (cap.map (ev ρ)).toArray) w
  | .faddr off x => faddrK go w off (ev ρ x)
  | .fld1 off x => fld1K go w off (ev ρ x)
  | .fldN off n x => fldNK go w off n (ev ρ x)
  | .iaddr sz x i => iaddrK go w sz (ev ρ x) (ev ρ i)
  | .iaddrA len sz x i => iaddrAK go w len sz (ev ρ x) (ev ρ i)
  | .sidx x i => sidxK go w (ev ρ x) (ev ρ i)
  | .ext x i => extK go w i (ev ρ x)
  | .lenS x => lenSK go w (ev ρ x)
  | .lenL x => lenLK go w (ev ρ x)
  | .call f args => CallK P go f (args.map (ev ρ)) w
  | .callv x args => callvK P go w (args.map (ev ρ)) (ev ρ x)
  | .inv x name args => invK P go w name (args.map (ev ρ)) (ev ρ x)
  | .build zero parts => buildK go w (fillL ρ parts zero.toArray)
  | .buildS t len zero parts => buildSK go w t len (fillL ρ parts zero.toArray)
  | .slS x lo hi => slSK go w (ev ρ x) (lo.map (ev ρ)) (hi.map (ev ρ))
  | .slL sz x lo hi => slLK go w sz (ev ρ x) (lo.map (ev ρ)) (hi.map (ev ρ))
  | .slA n sz x lo hi => slAK go w n sz (ev ρ x) (lo.map (ev ρ)) (hi.map (ev ρ))
  | .raw n o => RawK P go ρ ds n o w
end

/-! ### resolving -/

def csz (P : Program) (t : TypeId) : Option Nat := (P.info? t).map (·.size)
def zeroOf (P : Program) (t : TypeId) : Option Value := (P.info? t).bind (·.zero)
def isAggD : TypeDesc → Bool
  | .struct _ | .array .. => true
  | _ => false
def aggOf (P : Program) (t : TypeId) : Option Bool := (P.underlying t).map isAggD

def nilKind : TypeDesc → Operand → Option Nat
  | .pointer _, .const (.pointer none) => some 0
  | .slice _, .const (.slice none 0 0) => some 1
  | .map _ _, .const (.map none) => some 2
  | .func .., .const .nilFunc => some 3
  | .interface _, .const .nilIface => some 4
  | _, _ => none

/-- which int/string/bool/nil operator. -/
def compBin (P : Program) (n : Nat) (o : Oper) (op : BinOp) (t : TypeId) (x y : Operand) (yt : TypeId) : Ins :=
  match P.underlying t with
  | some (.int k) => (match P.underlying yt with | some (.int k') => if k = k' ∨ op = .shl ∨ op = .shr then .iop op x y else .raw n o | _ => .raw n o)
  | some .string => .sop op x y
  | some .bool => (match op with | .eql => .bop false x y | .neq => .bop true x y | _ => .raw n o)
  | some d => (match nilKind d y, op with | some k, .eql => .pnil k false x | some k, .neq => .pnil k true x | _, _ => .raw n o)
  | none => .raw n o

def placesOf (P : Program) (t : TypeId) : Option (List (Nat × Nat)) :=
  match P.underlying t with
  | some (.struct fields) => fields.toList.mapM fun f => (csz P f.type).map fun s => (f.offset, s)
  | _ => none

def zeroRow (z : List Value) : Nat → List Value
  | 0 => []
  | k + 1 => z ++ zeroRow z k

def compParts (places : List (Nat × Nat)) : List (Nat × Operand) → Option (List (Nat × Nat × Operand))
  | [] => some []
  | (i, x) :: rest => match places[i]?, compParts places rest with | some (off, s), some l => some ((off, s, x) :: l) | _, _ => none

def compOp (P : Program) (n : Nat) (o : Oper) : Ins :=
  if !(o.op.operands.toList.all (inB n)) then .raw n o else
  match o.op with
  | .move x | .assign x => .mv x
  | .pick c a b => .pick c a b
  | .alloc t => (match zeroOf P t with | some v => .alloc t v | none => .raw n o)
  | .box t x => .box t x
  | .load t x => (match csz P t, aggOf P t with | some s, some a => if a then .loadN s x else .load1 x | _, _ => .raw n o)
  | .store t x v => (match csz P t, aggOf P t with | some s, some a => if a then .storeN s x v else if s = 1 then .store1 x v else .raw n o | _, _ => .raw n o)
  | .nilCheck x => .nilc x
  | .binOp op t x y yt => compBin P n o op t x y yt
  | .unOp .not _ x => .not x
  | .convert src dst x => (match P.underlying src, P.underlying dst with | some (.int _), some (.int k) => .conv k x | some .string, some .string => .same x | _, _ => .raw n o)
  | .makeInterface t x => (match P.underlying t with | some (.interface _) | none => .raw n o | _ => .mkI t x)
  | .makeFunc fn first cap => .mkF fn first.toList cap.toList
  | .fieldAddr s x f => (match P.underlying s with | some (.struct fs) => (match fs[f]? with | some fd => (match csz P fd.type with | some (_ + 1) => .faddr fd.offset x | _ => .raw n o) | none => .raw n o) | _ => .raw n o)
  | .field s x f => (match P.underlying s with | some (.struct fs) => (match fs[f]? with | some fd => (match csz P fd.type, aggOf P fd.type with | some m, some a => if a then .fldN fd.offset m x else .fld1 fd.offset x | _, _ => .raw n o) | none => .raw n o) | _ => .raw n o)
  | .indexAddr t x i => (match P.underlying t with
      | some (.slice e) => (match csz P e with | some s => .iaddr s x i | none => .raw n o)
      | some (.array len e) => (match csz P e with | some s => .iaddrA len s x i | none => .raw n o)
      | _ => .raw n o)
  | .index t x i => (match P.underlying t with | some .string => .sidx x i | _ => .raw n o)
  | .extract x i => .ext x i
  | .call { callee := .value (.func f), args, .. } => if okF P f then .call f args.toList else .raw n o
  | .call { callee := .value x, args, .. } => .callv x args.toList
  | .call { callee := .invoke x name, args, .. } => .inv x name args.toList
  | .call { callee := .builtin .len, args, argTypes } => (match argTypes.toList, args.toList with
      | [t], [x] => (match P.underlying t with | some .string => .lenS x | some (.slice _) => .lenL x | _ => .raw n o)
      | _, _ => .raw n o)
  | .build t parts => (match placesOf P t, zeroOf P t with
      | some pl, some z => (match compParts pl parts.toList with | some l => .build z.cells.toList l | none => .raw n o)
      | _, _ => .raw n o)
  | .slice t x lo hi none => (match P.underlying t with
      | some .string => .slS x lo hi
      | some (.slice e) => (match csz P e with | some s => .slL s x lo hi | none => .raw n o)
      | some (.array m e) => (match csz P e with | some s => .slA m s x lo hi | none => .raw n o)
      | _ => .raw n o)
  | .buildSlice t len parts => (match P.underlying t with
      | some (.slice e) => (match csz P e, zeroOf P e with
        | some s, some z => if z.cells.size = s ∧ 0 < s ∧ len * s ≤ 2 ^ 24 then .buildS e len (zeroRow z.cells.toList len) (parts.toList.map fun p => (p.1 * s, s, p.2)) else .raw n o
        | _, _ => .raw n o)
      | _ => .raw n o)
  | _ => .raw n o

end Go.Vc
