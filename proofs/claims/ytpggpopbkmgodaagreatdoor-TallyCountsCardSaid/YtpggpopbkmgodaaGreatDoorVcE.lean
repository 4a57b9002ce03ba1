import Derived.RangeFuncLeaves
import Derived.RangeFuncNested
import Derived.RangeFuncCalls
import Derived.WalkKit
import Derived.KernelRfl
set_option linter.unusedSimpArgs false
set_option linter.unusedVariables false
set_option linter.unusedSectionVars false
set_option linter.unnecessarySimpa false
namespace Go.Vc
open Go
structure Mod (S:Nat→Prop) (w w':World):Prop where
 os:w'.os=w.os
 tape:w'.tape=w.tape
 output:w'.output=w.output
 size:w.heap.size≤w'.heap.size
 get:∀k,k<w.heap.size→¬S k→w'.heap[k]? = w.heap[k]?
def set (w:World) (b:Nat) (o:Obj):World:={ w with heap:=w.heap.setIfInBounds b o }
theorem Mod.refl (S:Nat→Prop) (w:World):Mod S w w:=⟨rfl,rfl,rfl,Nat.le_refl _,fun _ _ _=>rfl⟩
theorem Mod.trans {S:Nat→Prop} {a b c:World} (h:Mod S a b) (k:Mod S b c):Mod S a c :=
 ⟨k.os.trans h.os,k.tape.trans h.tape,k.output.trans h.output,Nat.le_trans h.size k.size,fun i hi hs=>(k.get i (Nat.lt_of_lt_of_le hi h.size) hs).trans (h.get i hi hs)⟩
theorem Mod.mono {S S':Nat→Prop} {a b:World} (h:Mod S a b) (hS:∀k,k<a.heap.size→S k→S' k):Mod S' a b :=
 ⟨h.os,h.tape,h.output,h.size,fun i hi hs=>h.get i hi (fun x=>hs (hS i hi x))⟩
theorem Mod.alloc {S:Nat→Prop} {a w:World} (h:Mod S a w) (o:Obj):Mod S a (w.alloc o) :=
 h.trans ⟨rfl,rfl,rfl,by simp,fun k hk _=>by simp only [World.alloc,Array.getElem?_push];rw [if_neg (by omega)]⟩
theorem Mod.drew {S:Nat→Prop} {a w:World} (h:Mod S a w):Mod S a w.drew:=h.trans ⟨rfl,rfl,rfl,Nat.le_refl _,fun _ _ _=>rfl⟩
theorem Mod.set {S:Nat→Prop} {a w:World} (h:Mod S a w) {b:Nat} {o:Obj} (hb:a.heap.size≤b∨S b):Mod S a (Vc.set w b o) :=
 ⟨h.os,h.tape,h.output,by simp only [Vc.set,Array.size_setIfInBounds];exact h.size,fun k hk hs=>by
  rw [← h.get k hk hs];simp only [Vc.set]
  refine Array.getElem?_setIfInBounds_ne ?_
  rintro rfl
  exact hb.elim (fun x=>by omega) hs⟩
theorem Mod.then {S T:Nat→Prop} {a b c:World} (h:Mod S a b) (k:Mod T b c) (hT:∀i,i<a.heap.size→T i→S i):Mod S a c :=
 ⟨k.os.trans h.os,k.tape.trans h.tape,k.output.trans h.output,Nat.le_trans h.size k.size,fun i hi hs=>(k.get i (Nat.lt_of_lt_of_le hi h.size) (fun x=>hs (hT i hi x))).trans (h.get i hi hs)⟩
theorem Mod.below {w w':World} (h:Mod (fun _=>False) w w'):Go.RowKit.Below w.heap.size w w':=⟨h.os,h.tape,h.output,h.size,fun k hk=>h.get k hk id⟩
theorem Mod.of_below {w w':World} (h:Go.RowKit.Below w.heap.size w w'):Mod (fun _=>False) w w':=⟨h.os,h.tape,h.output,h.size,fun k hk _=>h.block k hk⟩
theorem size_set (w:World) (b:Nat) (o:Obj):(set w b o).heap.size=w.heap.size:=by simp [set]
theorem size_alloc (w:World) (o:Obj):(w.alloc o).heap.size=w.heap.size+1:=World.size_alloc _ _
theorem size_drew (w:World):w.drew.heap.size=w.heap.size:=rfl
theorem get_alloc_new (w:World) (o:Obj):(w.alloc o).heap[w.heap.size]? = some o:=by
 show (w.heap.push o)[w.heap.size]? = some o
 simp
theorem get_alloc_new' (w:World) (o:Obj) (k:Nat) (h:k=w.heap.size):(w.alloc o).heap[k]? = some o:=by subst h;exact get_alloc_new w o
theorem get_alloc_old (w:World) (o:Obj) (k:Nat) (h:k<w.heap.size):(w.alloc o).heap[k]? = w.heap[k]?:=by
 simp only [World.alloc,Array.getElem?_push];rw [if_neg (by omega)]
theorem get_set_same (w:World) (b:Nat) (o:Obj) (h:b<w.heap.size):(set w b o).heap[b]? = some o:=by simp [set,h]
theorem get_set_other (w:World) (b k:Nat) (o:Obj) (h:k≠b):(set w b o).heap[k]? = w.heap[k]?:=by
 simp only [set];exact Array.getElem?_setIfInBounds_ne (Ne.symm h)
theorem get_drew (w:World) (k:Nat):w.drew.heap[k]? = w.heap[k]?:=rfl
theorem lt_of_get {w:World} {k:Nat} {o:Obj} (h:w.heap[k]? = some o):k<w.heap.size:=by
 rcases Nat.lt_or_ge k w.heap.size with x|x
 ·exact x
 ·rw [Array.getElem?_eq_none x] at h;cases h
abbrev Env:=Nat→Value
def upd (ρ:Env) (d:Nat) (v:Value):Env:=fun i=>if i=d then v else ρ i
def updO (ρ:Env):Option Nat→Value→Env
 | none,_=>ρ
 | some d,v=>upd ρ d v
def ev (ρ:Env):Operand→Value
 | .tmp t=>ρ t
 | .const v=>v
 | .global g=>.pointer (some ⟨g,0,none⟩)
 | .func f=>.func (.func f) #[] #[]
def tm (n:Nat) (ρ:Env):Array Value:=(Array.range n).map ρ
def mkA (n:Nat) (ρ:Env) (ds:List Deferred):Act:=⟨tm n ρ,ds⟩
def inB (n:Nat):Operand→Bool
 | .tmp t=>t<n
 | _=>true
theorem tm_getD (n:Nat) (ρ:Env) (t:Nat) (h:t<n):(tm n ρ).getD t undef=ρ t:=by simp [tm,h]
theorem tm_get (n:Nat) (ρ:Env) (t:Nat) (h:t<n):(tm n ρ)[t]? = some (ρ t):=by simp [tm,h]
theorem tm_set (n:Nat) (ρ:Env) (d:Nat) (v:Value):(tm n ρ).setIfInBounds d v=tm n (upd ρ d v):=by
 apply Array.ext
 ·simp [tm]
 ·intro i h1 h2
  have hi:i<n:=by simpa [tm] using h2
  have:((tm n ρ).setIfInBounds d v)[i]? = (tm n (upd ρ d v))[i]?:=by
   rw [tm_get _ _ _ hi]
   by_cases e:d=i
   ·subst e;rw [Array.getElem?_setIfInBounds_self];simp [upd,tm,hi]
   ·rw [Array.getElem?_setIfInBounds_ne e,tm_get _ _ _ hi];simp [upd,Ne.symm e]
  rw [Array.getElem?_eq_getElem h1,Array.getElem?_eq_getElem h2] at this
  exact Option.some.inj this
theorem mkA_eval (n:Nat) (ρ:Env) (ds:List Deferred) (x:Operand) (h:inB n x=true):(mkA n ρ ds).eval x=ev ρ x:=by
 cases x with
 | tmp t=>simp only [inB,decide_eq_true_eq] at h;exact tm_getD n ρ t h
 | _=>rfl
theorem mkA_put (n:Nat) (ρ:Env) (ds:List Deferred) (d:Option Nat) (v:Value):(mkA n ρ ds).put d v=mkA n (updO ρ d v) ds:=by
 cases d with
 | none=>rfl
 | some d=>simp only [Act.put,mkA,tm_set,updO]
def FW (ro:Option Nat):Fence:={ Fence.wide with round:=ro }
def CallP (P:Program) (f:FuncId) (args:Array Value) (w:World) (K:Value→World→Prop):Prop :=
 CallsIn Fence.wide 0 P f args w fun e w' => ∃v,e = .returned v∧K v w'
theorem callP_mono {P:Program} {f:FuncId} {args:Array Value} {w:World} {K K':Value→World→Prop} (h:CallP P f args w K) (hk:∀v w',K v w'→K' v w'):CallP P f args w K' :=
 CallsIn.mono h fun _ _ ⟨v,e,x⟩=>⟨v,e,hk _ _ x⟩
def RoundP (P:Program) (l:Nat) (f:FuncId) (tmps:Array Value) (as bd:Code) (w:World) (K:Value→World→Prop):Prop :=
 RoundIn Fence.wide 0 P l f tmps as bd w fun e w' => ∃v,e = .returned v∧K v w'
def upon (P:Program) (K:Value→World→Prop):Result Next→Prop
 | .ok (.value v) w=>K v w
 | .ok .skip w=>K undef w
 | .ok (.enter f args) w=>CallP P f args w K
 | .ok (.round l f tmps as bd) w=>RoundP P l f tmps as bd w K
 | _=>False
theorem uponIn_of_upon {P:Program} {ro:Option Nat} {o:Oper} {a:Act} {next:Act→World→Prop} {Q:Exit→Act→World→Prop} {r:Result Next}
  (h:upon P (fun v w=>next (a.put o.dst v) w) r):o.uponIn (FW ro) 0 P a next Q r:=by
 match r,h with
 | .ok (.value v) w,h=>exact h
 | .ok .skip w,h=>exact h
 | .ok (.enter f args) w,h =>
  refine ⟨fun x=>by simp [FW,Fence.wide] at x, ?_⟩
  have h':CallsIn (FW ro) 0 P f args w _:=h
  refine CallsIn.mono h' ?_
  rintro e w' ⟨v,rfl,x⟩
  exact x
 | .ok (.round l f tmps as bd) w,h =>
  refine ⟨fun x=>by simp [FW,Fence.wide] at x, ?_⟩
  have h':RoundIn (FW ro) 0 P l f tmps as bd w _:=h
  refine RoundIn.mono h' ?_
  rintro e w' ⟨v,rfl,x⟩
  exact x
inductive Ins where
 | mv (x:Operand)
 | pick (c a b:Operand)
 | alloc (t:TypeId) (zero:Value)
 | box (t:TypeId) (x:Operand)
 | load1 (x:Operand)
 | loadN (n:Nat) (x:Operand)
 | store1 (x v:Operand)
 | storeN (n:Nat) (x v:Operand)
 | nilc (x:Operand)
 | iop (op:BinOp) (x y:Operand)
 | sop (op:BinOp) (x y:Operand)
 | bop (neq:Bool) (x y:Operand)
 | pnil (k:Nat) (neq:Bool) (x:Operand)
 | not (x:Operand)
 | conv (k:IntKind) (x:Operand)
 | same (x:Operand)
 | mkI (t:TypeId) (x:Operand)
 | mkF (fn:Fn) (first captured:List Operand)
 | faddr (off:Nat) (x:Operand)
 | fld1 (off:Nat) (x:Operand)
 | fldN (off n:Nat) (x:Operand)
 | iaddr (sz:Nat) (x i:Operand)
 | iaddrA (len sz:Nat) (x i:Operand)
 | sidx (x i:Operand)
 | ext (x:Operand) (i:Nat)
 | lenS (x:Operand)
 | lenL (x:Operand)
 | call (f:FuncId) (args:List Operand)
 | callv (x:Operand) (args:List Operand)
 | inv (x:Operand) (name:String) (args:List Operand)
 | build (zero:List Value) (parts:List (Nat × Nat × Operand))
 | buildS (t:TypeId) (len:Nat) (zero:List Value) (parts:List (Nat × Nat × Operand))
 | slS (x:Operand) (lo hi:Option Operand)
 | slL (sz:Nat) (x:Operand) (lo hi:Option Operand)
 | slA (n sz:Nat) (x:Operand) (lo hi:Option Operand)
 | raw (n:Nat) (o:Oper)
 deriving Inhabited
structure In where
 g:Option (Nat × Bool)
 d:Option Nat
 i:Ins
 deriving Inhabited
def isPlain:Value→Bool
 | .agg _ | .tuple _=>false
 | _=>true
def fillL (ρ:Env):List (Nat × Nat × Operand)→Array Value→Option (Array Value)
 | [],cs=>some cs
 | (off,n,x) :: rest,cs =>
  if (ev ρ x).cells.size=n∧off+n≤cs.size then fillL ρ rest ((ev ρ x).cells.toList.zipIdx.foldl (fun a (c,j)=>a.setIfInBounds (off+j) c) cs) else none
def okF (P:Program) (f:FuncId):Bool :=
 match P.funcs[f]? with
 | some fn => !(fn.name == "runtime.NumGoroutine") && fn.body.isSome
 | none=>false
def Ok (P:Program) (f:FuncId) (args:Array Value) (w:World) (K:Value→World→Prop):Prop:=okF P f=true∧CallP P f args w K
theorem Ok.mono {P:Program} {f:FuncId} {args:Array Value} {w:World} {K K':Value→World→Prop} (h:Ok P f args w K) (hk:∀v w',K v w'→K' v w'):Ok P f args w K':=⟨h.1,callP_mono h.2 hk⟩
section
variable (P:Program) (go:Value→World→Prop)
def pickK (w:World) (a b:Value):Value→Prop
 | .bool t=>go (if t then a else b) w
 | _=>False
def loadV (w:World):Option Value→Prop
 | some v=>go v w
 | none=>False
def loadO (w:World) (o:Nat):Option Obj→Prop
 | some (.cells c _ _)=>loadV go w c[o]?
 | _=>False
def load1K (w:World):Value→Prop
 | .pointer (some ⟨b,o,none⟩)=>loadO go w o w.heap[b]?
 | _=>False
def loadNO (w:World) (o n:Nat):Option Obj→Prop
 | some (.cells c _ _)=>o+n≤c.size∧go (.agg (c.extract o (o+n))) w
 | _=>False
def loadNK (w:World) (n:Nat):Value→Prop
 | .pointer (some ⟨b,o,none⟩)=>loadNO go w o n w.heap[b]?
 | _=>False
def storeO (w:World) (b o:Nat) (v:Value):Option Obj→Prop
 | some (.cells c t f)=>(o<c.size∧(decide (f.1≤o) && decide (o<f.2))=false∧isPlain v=true)∧go undef (set w b (.cells (c.setIfInBounds o v) t f))
 | _=>False
def storeK (w:World) (v:Value):Value→Prop
 | .pointer (some ⟨b,o,none⟩)=>storeO go w b o v w.heap[b]?
 | _=>False
def setMany (c:Array Value) (o:Nat):List Value→Array Value
 | []=>c
 | v :: l=>setMany (c.setIfInBounds o v) (o+1) l
def storeNO (w:World) (b o n:Nat) (cs:Array Value):Option Obj→Prop
 | some (.cells c t f)=>(cs.size=n∧o+n≤c.size∧f=(0,0)∧cs.all isPlain=true)∧go undef (set w b (.cells (setMany c o cs.toList) t f))
 | _=>False
def storeNK (w:World) (n:Nat):Value→Value→Prop
 | .pointer (some ⟨b,o,none⟩),.agg cs=>storeNO go w b o n cs w.heap[b]?
 | _,_=>False
def nilM (nm:String):Option Value→Prop
 | some (.iface t v) => ∀w,(nilAhead (P.types.size+Made.depth) t v nm).run P w = .ok (some false) w
 | _=>False
def nilK (w:World):Value→Prop
 | .pointer (some a)=>go (.pointer (some a)) w
 | .func (.func f) first cap=>go (.func (.func f) first cap) w
 | .func (.yield l) first cap=>go (.func (.yield l) first cap) w
 | .func (.method nm) first cap=>nilM P nm first[0]?∧go (.func (.method nm) first cap) w
 | _=>False
def iopV (k:IntKind) (m n:Int):BinOp→Option Value
 | .add=>some (.int k (k.wrap (m+n)))
 | .sub=>some (.int k (k.wrap (m-n)))
 | .mul=>some (.int k (k.wrap (m * n)))
 | .quo=>if n=0 then none else some (.int k (k.wrap (m.tdiv n)))
 | .rem=>if n=0 then none else some (.int k (m.tmod n))
 | .eql=>some (.bool (m == n))
 | .neq=>some (.bool (m != n))
 | .lss=>some (.bool (m<n))
 | .leq=>some (.bool (m≤n))
 | .gtr=>some (.bool (m > n))
 | .geq=>some (.bool (m ≥ n))
 | .and=>some (.int k (k.wrap (BitVec.ofInt k.bits m &&& BitVec.ofInt k.bits n).toNat))
 | .or=>some (.int k (k.wrap (BitVec.ofInt k.bits m ||| BitVec.ofInt k.bits n).toNat))
 | .xor=>some (.int k (k.wrap (BitVec.ofInt k.bits m ^^^ BitVec.ofInt k.bits n).toNat))
 | .andNot=>some (.int k (k.wrap (BitVec.ofInt k.bits m &&& ~~~(BitVec.ofInt k.bits n)).toNat))
 | .shl=>if n<0 then none else some (.int k (k.wrap (m * 2^(min n.toNat k.bits))))
 | .shr=>if n<0 then none else some (.int k (m.fdiv (2^(min n.toNat k.bits))))
def iopK (w:World) (op:BinOp):Value→Value→Prop
 | .int k m,.int k' n=>(k=k'∨op = .shl∨op = .shr)∧loadV go w (iopV k m n op)
 | _,_=>False
def sopV (a b:ByteArray):BinOp→Option Value
 | .add=>if ((a.size+b.size:Nat):Int) > IntKind.i64.max then none else some (.string (a ++ b))
 | .eql=>some (.bool (a.toList == b.toList))
 | .neq=>some (.bool !(a.toList == b.toList))
 | .lss=>some (.bool (Op.bytesLess a.toList b.toList))
 | .leq=>some (.bool (Op.bytesLess a.toList b.toList || a.toList == b.toList))
 | .gtr=>some (.bool !(Op.bytesLess a.toList b.toList || a.toList == b.toList))
 | .geq=>some (.bool !Op.bytesLess a.toList b.toList)
 | _=>none
def sopK (w:World) (op:BinOp):Value→Value→Prop
 | .string a,.string b=>loadV go w (sopV a b op)
 | _,_=>False
def bopK (w:World) (neq:Bool):Value→Value→Prop
 | .bool a,.bool b=>go (.bool (if neq then a != b else a == b)) w
 | _,_=>False
def nilOf:Nat→Value→Option Bool
 | 0,.pointer p=>some p.isNone
 | 1,.slice a _ _=>some a.isNone
 | 2,.map r=>some r.isNone
 | 3,.nilFunc=>some true
 | 3,.func _ _ _=>some false
 | 4,.nilIface=>some true
 | 4,.iface _ _=>some false
 | _,_=>none
def pnilK (w:World) (neq:Bool):Option Bool→Prop
 | some t=>go (.bool (if neq then !t else t)) w
 | none=>False
def notK (w:World):Value→Prop
 | .bool t=>go (.bool !t) w
 | _=>False
def convK (w:World) (k:IntKind):Value→Prop
 | .int _ n=>go (.int k (k.wrap n)) w
 | _=>False
def sameK (w:World):Value→Prop
 | .string s=>go (.string s) w
 | _=>False
def faddrK (w:World) (off:Nat):Value→Prop
 | .pointer (some ⟨b,o,none⟩)=>go (.pointer (some ⟨b,o+off,none⟩)) w
 | _=>False
def fld1K (w:World) (off:Nat):Value→Prop
 | .agg cs=>loadV go w cs[off]?
 | _=>False
def fldNK (w:World) (off n:Nat):Value→Prop
 | .agg cs=>go (.agg (cs.extract off (off+n))) w
 | _=>False
def iaddrK (w:World) (sz:Nat):Value→Value→Prop
 | .slice (some ⟨b,o,none⟩) len _,.int _ i=>(0≤i∧i<len)∧go (.pointer (some ⟨b,o+i.toNat * sz,none⟩)) w
 | _,_=>False
def iaddrAK (w:World) (len sz:Nat):Value→Value→Prop
 | .pointer (some ⟨b,o,none⟩),.int _ i=>(0≤i∧i<len)∧go (.pointer (some ⟨b,o+i.toNat * sz,none⟩)) w
 | _,_=>False
def sidxK (w:World):Value→Value→Prop
 | .string s,.int _ i=>0≤i∧loadV go w (s.data[i.toNat]?.map fun b=>.int .u8 b.toNat)
 | _,_=>False
def extK (w:World) (i:Nat):Value→Prop
 | .tuple vs=>loadV go w vs[i]?
 | _=>False
def lenSK (w:World):Value→Prop
 | .string s=>go (.int .i64 s.size) w
 | _=>False
def lenLK (w:World):Value→Prop
 | .slice _ n _=>go (.int .i64 n) w
 | _=>False
def CallK (f:FuncId) (args:List Value) (w:World):Prop:=Ok P f args.toArray w go
def YieldK (l:Nat) (args:List Value) (w:World):Prop:=upon P go ((Instr.yield l args.toArray).run P w)
def callvK (w:World) (args:List Value):Value→Prop
 | .func (.func f) first cap=>CallK P go f (first.toList ++ args ++ cap.toList) w
 | .func (.yield l) first _=>YieldK P go l (first.toList ++ args) w
 | _=>False
def InvK (t:TypeId) (v:Value) (name:String) (args:List Value) (w:World):Prop :=
 ∃f x,(method (P.types.size+Made.depth) t v name).run P w = .ok (f,x) w∧CallK P go f (x :: args) w
def invK (w:World) (name:String) (args:List Value):Value→Prop
 | .iface t v=>InvK P go t v name args w
 | _=>False
def buildK (w:World):Option (Array Value)→Prop
 | some cs=>go (.agg cs) w
 | none=>False
def buildSK (w:World) (t:TypeId) (len:Nat):Option (Array Value)→Prop
 | some cs=>go (.slice (some ⟨w.heap.size,0,none⟩) len len) (w.alloc (.cells cs t))
 | none=>False
def boundOf (dflt:Nat):Option Value→Option Int
 | none=>some dflt
 | some (.int _ i)=>some i
 | some _=>none
def slSK (w:World):Value→Option Value→Option Value→Prop
 | .string s,lo,hi =>
  match boundOf 0 lo,boundOf s.size hi with
  | some l,some h=>(0≤l∧l≤h∧h≤s.size)∧go (.string (s.extract l.toNat h.toNat)) w
  | _,_=>False
 | _,_,_=>False
def slLK (w:World) (sz:Nat):Value→Option Value→Option Value→Prop
 | .slice a len cap,lo,hi =>
  match boundOf 0 lo,boundOf len hi with
  | some l,some h=>(0≤l∧l≤h∧h≤cap)∧go (.slice (if cap=l.toNat then a else a.map (·.add (l.toNat * sz))) (h.toNat-l.toNat) (cap-l.toNat)) w
  | _,_=>False
 | _,_,_=>False
def slAK (w:World) (n sz:Nat):Value→Option Value→Option Value→Prop
 | .pointer (some a),lo,hi =>
  match boundOf 0 lo,boundOf n hi with
  | some l,some h=>(0≤l∧l≤h∧h≤n)∧go (.slice (some (if n=l.toNat then a else a.add (l.toNat * sz))) (h.toNat-l.toNat) (n-l.toNat)) w
  | _,_=>False
 | _,_,_=>False
def RawK (ρ:Env) (ds:List Deferred) (n:Nat) (o:Oper) (w:World):Prop:=upon P go ((execOp (mkA n ρ ds).eval o).run P w)
def insVc (ρ:Env) (ds:List Deferred) (w:World):Ins→Prop
 | .mv x=>go (ev ρ x) w
 | .pick c a b=>pickK go w (ev ρ a) (ev ρ b) (ev ρ c)
 | .alloc t zero=>go (.pointer (some ⟨w.heap.size,0,none⟩)) (w.alloc (.cells zero.cells t))
 | .box t x=>go (.pointer (some ⟨w.heap.size,0,none⟩)) (w.alloc (.cells (ev ρ x).cells t))
 | .load1 x=>load1K go w (ev ρ x)
 | .loadN n x=>loadNK go w n (ev ρ x)
 | .store1 x v=>storeK go w (ev ρ v) (ev ρ x)
 | .storeN n x v=>storeNK go w n (ev ρ x) (ev ρ v)
 | .nilc x=>nilK P go w (ev ρ x)
 | .iop op x y=>iopK go w op (ev ρ x) (ev ρ y)
 | .sop op x y=>sopK go w op (ev ρ x) (ev ρ y)
 | .bop neq x y=>bopK go w neq (ev ρ x) (ev ρ y)
 | .pnil k neq x=>pnilK go w neq (nilOf k (ev ρ x))
 | .not x=>notK go w (ev ρ x)
 | .conv k x=>convK go w k (ev ρ x)
 | .same x=>sameK go w (ev ρ x)
 | .mkI t x=>go (.iface t (ev ρ x)) w
 | .mkF fn first cap=>go (.func fn (first.map (ev ρ)).toArray (cap.map (ev ρ)).toArray) w
 | .faddr off x=>faddrK go w off (ev ρ x)
 | .fld1 off x=>fld1K go w off (ev ρ x)
 | .fldN off n x=>fldNK go w off n (ev ρ x)
 | .iaddr sz x i=>iaddrK go w sz (ev ρ x) (ev ρ i)
 | .iaddrA len sz x i=>iaddrAK go w len sz (ev ρ x) (ev ρ i)
 | .sidx x i=>sidxK go w (ev ρ x) (ev ρ i)
 | .ext x i=>extK go w i (ev ρ x)
 | .lenS x=>lenSK go w (ev ρ x)
 | .lenL x=>lenLK go w (ev ρ x)
 | .call f args=>CallK P go f (args.map (ev ρ)) w
 | .callv x args=>callvK P go w (args.map (ev ρ)) (ev ρ x)
 | .inv x name args=>invK P go w name (args.map (ev ρ)) (ev ρ x)
 | .build zero parts=>buildK go w (fillL ρ parts zero.toArray)
 | .buildS t len zero parts=>buildSK go w t len (fillL ρ parts zero.toArray)
 | .slS x lo hi=>slSK go w (ev ρ x) (lo.map (ev ρ)) (hi.map (ev ρ))
 | .slL sz x lo hi=>slLK go w sz (ev ρ x) (lo.map (ev ρ)) (hi.map (ev ρ))
 | .slA n sz x lo hi=>slAK go w n sz (ev ρ x) (lo.map (ev ρ)) (hi.map (ev ρ))
 | .raw n o=>RawK P go ρ ds n o w
end
def csz (P:Program) (t:TypeId):Option Nat:=(P.info? t).map (·.size)
def zeroOf (P:Program) (t:TypeId):Option Value:=(P.info? t).bind (·.zero)
def isAggD:TypeDesc→Bool
 | .struct _ | .array .. => true
 | _=>false
def aggOf (P:Program) (t:TypeId):Option Bool:=(P.underlying t).map isAggD
def nilKind:TypeDesc→Operand→Option Nat
 | .pointer _,.const (.pointer none)=>some 0
 | .slice _,.const (.slice none 0 0)=>some 1
 | .map _ _,.const (.map none)=>some 2
 | .func ..,.const .nilFunc=>some 3
 | .interface _,.const .nilIface=>some 4
 | _,_=>none
def compBin (P:Program) (n:Nat) (o:Oper) (op:BinOp) (t:TypeId) (x y:Operand) (yt:TypeId):Ins :=
 match P.underlying t with
 | some (.int k)=>(match P.underlying yt with|some (.int k')=>if k=k'∨op = .shl∨op = .shr then .iop op x y else .raw n o|_=>.raw n o)
 | some .string=>.sop op x y
 | some .bool=>(match op with | .eql=>.bop false x y | .neq=>.bop true x y|_=>.raw n o)
 | some d=>(match nilKind d y,op with|some k,.eql=>.pnil k false x|some k,.neq=>.pnil k true x|_,_=>.raw n o)
 | none=>.raw n o
def placesOf (P:Program) (t:TypeId):Option (List (Nat × Nat)) :=
 match P.underlying t with
 | some (.struct fields)=>fields.toList.mapM fun f=>(csz P f.type).map fun s=>(f.offset,s)
 | _=>none
def zeroRow (z:List Value):Nat→List Value
 | 0=>[]
 | k+1=>z ++ zeroRow z k
def compParts (places:List (Nat × Nat)):List (Nat × Operand)→Option (List (Nat × Nat × Operand))
 | []=>some []
 | (i,x) :: rest=>match places[i]?,compParts places rest with|some (off,s),some l=>some ((off,s,x) :: l)|_,_=>none
def compOp (P:Program) (n:Nat) (o:Oper):Ins :=
 if !(o.op.operands.toList.all (inB n)) then .raw n o else
 match o.op with
 | .move x | .assign x=>.mv x
 | .pick c a b=>.pick c a b
 | .alloc t=>(match zeroOf P t with|some v=>.alloc t v|none=>.raw n o)
 | .box t x=>.box t x
 | .load t x=>(match csz P t,aggOf P t with|some s,some a=>if a then .loadN s x else .load1 x|_,_=>.raw n o)
 | .store t x v=>(match csz P t,aggOf P t with|some s,some a=>if a then .storeN s x v else if s=1 then .store1 x v else .raw n o|_,_=>.raw n o)
 | .nilCheck x=>.nilc x
 | .binOp op t x y yt=>compBin P n o op t x y yt
 | .unOp .not _ x=>.not x
 | .convert src dst x=>(match P.underlying src,P.underlying dst with|some (.int _),some (.int k)=>.conv k x|some .string,some .string=>.same x|_,_=>.raw n o)
 | .makeInterface t x=>(match P.underlying t with|some (.interface _)|none=>.raw n o|_=>.mkI t x)
 | .makeFunc fn first cap=>.mkF fn first.toList cap.toList
 | .fieldAddr s x f=>(match P.underlying s with|some (.struct fs)=>(match fs[f]? with|some fd=>(match csz P fd.type with|some (_+1)=>.faddr fd.offset x|_=>.raw n o)|none=>.raw n o)|_=>.raw n o)
 | .field s x f=>(match P.underlying s with|some (.struct fs)=>(match fs[f]? with|some fd=>(match csz P fd.type,aggOf P fd.type with|some m,some a=>if a then .fldN fd.offset m x else .fld1 fd.offset x|_,_=>.raw n o)|none=>.raw n o)|_=>.raw n o)
 | .indexAddr t x i=>(match P.underlying t with
   | some (.slice e)=>(match csz P e with|some s=>.iaddr s x i|none=>.raw n o)
   | some (.array len e)=>(match csz P e with|some s=>.iaddrA len s x i|none=>.raw n o)
   | _=>.raw n o)
 | .index t x i=>(match P.underlying t with|some .string=>.sidx x i|_=>.raw n o)
 | .extract x i=>.ext x i
 | .call { callee:=.value (.func f),args, .. } => if okF P f then .call f args.toList else .raw n o
 | .call { callee:=.value x,args, .. } => .callv x args.toList
 | .call { callee:=.invoke x name,args, .. } => .inv x name args.toList
 | .call { callee:=.builtin .len,args,argTypes } => (match argTypes.toList,args.toList with
   | [t],[x]=>(match P.underlying t with|some .string=>.lenS x|some (.slice _)=>.lenL x|_=>.raw n o)
   | _,_=>.raw n o)
 | .build t parts=>(match placesOf P t,zeroOf P t with
   | some pl,some z=>(match compParts pl parts.toList with|some l=>.build z.cells.toList l|none=>.raw n o)
   | _,_=>.raw n o)
 | .slice t x lo hi none=>(match P.underlying t with
   | some .string=>.slS x lo hi
   | some (.slice e)=>(match csz P e with|some s=>.slL s x lo hi|none=>.raw n o)
   | some (.array m e)=>(match csz P e with|some s=>.slA m s x lo hi|none=>.raw n o)
   | _=>.raw n o)
 | .buildSlice t len parts=>(match P.underlying t with
   | some (.slice e)=>(match csz P e,zeroOf P e with
    | some s,some z=>if z.cells.size=s∧0<s∧len * s≤2^24 then .buildS e len (zeroRow z.cells.toList len) (parts.toList.map fun p=>(p.1*s,s,p.2)) else .raw n o
    | _,_=>.raw n o)
   | _=>.raw n o)
 | _=>.raw n o
variable {P:Program} {go:Value→World→Prop} {ρ:Env} {ds:List Deferred} {w:World} {K:Value→World→Prop}
theorem load_at {b o:Nat} {c:Array Value} {t:TypeId} {f:Nat × Nat} {v:Value} (h:w.heap[b]? = some (.cells c t f)) (hv:c[o]? = some v) :
  (load ⟨b,o,none⟩).run P w = .ok v w:=by
 have hc:w.cell? ⟨b,o,none⟩=some v:=by simp [World.cell?,h,hv]
 simp [load,Sem.run,hc]
theorem add_off (b o i:Nat):(Addr.add ⟨b,o,none⟩ i)=⟨b,o+i,none⟩:=by
 unfold Addr.add;split
 ·rename_i h;subst h;rfl
 ·rfl
theorem loadCells_at {b o:Nat} {c:Array Value} {t:TypeId} {f:Nat × Nat} (h:w.heap[b]? = some (.cells c t f)) :
  ∀(n i:Nat) (acc:Array Value),o+i+n≤c.size→(loadCellsFrom ⟨b,o,none⟩ i n acc).run P w = .ok (acc ++ c.extract (o+i) (o+i+n)) w:=by
 intro n
 induction n with
 | zero=>intro i acc _;simp only [loadCellsFrom];rw [Nat.add_zero];simp [pure];omega
 | succ n ih =>
  intro i acc hn
  have hl:o+i<c.size:=by omega
  have h1:=load_at (P:=P) (o:=o+i) h (Array.getElem?_eq_getElem hl)
  simp only [loadCellsFrom,Sem.run_bind,add_off,h1,Result.andThen]
  rw [ih (i+1) _ (by omega)]
  congr 1
  apply Array.ext'
  simp only [Array.toList_append,Array.toList_push,Array.toList_extract,List.append_assoc,List.extract_eq_take_drop]
  congr 1
  have e1:o+(i+1)+n-(o+(i+1))=n:=by omega
  have e2:o+i+(n+1)-(o+i)=n+1:=by omega
  have hd:List.drop (o+i) c.toList=c[o+i] :: List.drop (o+(i+1)) c.toList:=by
   rw [List.drop_eq_getElem_cons (i:=o+i) (by simpa using hl)];simp [Nat.add_assoc]
  rw [e1,e2,hd]
  simp
theorem ext_get {a b:Array Obj} (h:∀i:Nat,a[i]? = b[i]?):a=b:=Array.ext_getElem? h
theorem setCell_at {b o:Nat} {c:Array Value} {t:TypeId} {f:Nat × Nat} (v:Value) (h:w.heap[b]? = some (.cells c t f)) :
  w.setCell ⟨b,o,none⟩ v=set w b (.cells (c.setIfInBounds o v) t f):=by
 have hb:=lt_of_get h
 unfold World.setCell set
 congr 1
 apply ext_get
 intro i
 rw [Array.getElem?_modify]
 by_cases e:b=i
 ·subst e
  rw [if_pos rfl,h,Array.getElem?_setIfInBounds_self]
  simp [hb]
 ·rw [if_neg e,Array.getElem?_setIfInBounds_ne e]
theorem store_at {b o:Nat} {c:Array Value} {t:TypeId} {f:Nat × Nat} {v:Value} (h:w.heap[b]? = some (.cells c t f)) (ho:o<c.size) (hf:(decide (f.1≤o) && decide (o<f.2))=false) (hp:isPlain v=true) :
  (store ⟨b,o,none⟩ v).run P w = .ok () (set w b (.cells (c.setIfInBounds o v) t f)):=by
 have hc:w.cell? ⟨b,o,none⟩=some c[o]:=by simp [World.cell?,h,ho]
 have hz:w.frozen? ⟨b,o,none⟩=false:=by simp only [World.frozen?,h];exact hf
 have hs:=setCell_at (o:=o) v h
 cases v <;> first|(simp [isPlain] at hp;done)|simp [store,Sem.run,hc,hz,hs]
theorem set_self {b:Nat} {o:Obj} (h:w.heap[b]? = some o):set w b o=w:=by
 unfold set
 have:w.heap.setIfInBounds b o=w.heap:=by
  apply ext_get
  intro i
  by_cases e:b=i
  ·subst e;rw [Array.getElem?_setIfInBounds_self,h];simp [lt_of_get h]
  ·rw [Array.getElem?_setIfInBounds_ne e]
 rw [this]
theorem set_set (w:World) (b:Nat) (o o':Obj):set (set w b o) b o'=set w b o':=by simp [set]
theorem storeCells_at:∀(l:List Value) {w:World} {b o i:Nat} {c:Array Value} {t:TypeId},w.heap[b]? = some (.cells c t (0,0))→o+i+l.length≤c.size→l.all isPlain=true →
  (storeCells ⟨b,o,none⟩ l i).run P w = .ok () (set w b (.cells (setMany c (o+i) l) t (0,0))):=by
 intro l
 induction l with
 | nil=>intro w b o i c t h _ _;simp [storeCells,pure,setMany,set_self h]
 | cons v l ih =>
  intro w b o i c t h ho hp
  simp only [List.length_cons] at ho
  simp only [List.all_cons,Bool.and_eq_true] at hp
  have h1:=store_at (P:=P) (v:=v) h (o:=o+i) (by omega) (by simp) hp.1
  simp only [storeCells,Sem.run_bind,add_off,h1,Result.andThen]
  have hb:=lt_of_get h
  have h2:=ih (w:=set w b (.cells (c.setIfInBounds (o+i) v) t (0,0))) (b:=b) (o:=o) (i:=i+1) (c:=c.setIfInBounds (o+i) v) (t:=t) (get_set_same _ _ _ hb) (by simp;omega) hp.2
  rw [h2,set_set]
  simp only [setMany,Nat.add_assoc]
variable {P:Program} {go:Value→World→Prop} {ρ:Env} {ds:List Deferred} {w:World}
theorem run_underlying {t:TypeId} {d:TypeDesc} (h:P.underlying t=some d) (w:World):(underlying t).run P w = .ok d w:=by simp [underlying,program,Sem.run_bind,Sem.run,h,Result.andThen,pure]
theorem run_sizeOf {t:TypeId} {s:Nat} (h:csz P t=some s) (w:World):(sizeOf t).run P w = .ok s w:=by
 unfold csz at h
 cases hi:P.info? t with
 | none=>simp [hi] at h
 | some i=>simp [hi] at h;simp [sizeOf,typeInfo,program,Sem.run_bind,Sem.run,hi,h,Result.andThen,pure]
theorem run_zeroValue {t:TypeId} {v:Value} (h:zeroOf P t=some v) (w:World):(zeroValue t).run P w = .ok v w:=by
 unfold zeroOf at h
 cases hi:P.info? t with
 | none=>simp [hi] at h
 | some i=>simp [hi] at h;simp [zeroValue,typeInfo,program,Sem.run_bind,Sem.run,hi,h,Result.andThen,pure]
theorem run_isAgg {t:TypeId} {a:Bool} (h:aggOf P t=some a) (w:World):(isAgg t).run P w = .ok a w:=by
 unfold aggOf at h
 cases hd:P.underlying t with
 | none=>simp [hd] at h
 | some d =>
  simp [hd] at h;subst h
  simp only [isAgg,Sem.run_bind,run_underlying hd,Result.andThen]
  cases d <;> simp [isAggD,pure]
theorem run_newObj (o:Obj) (w:World):(newObj o).run P w = .ok w.heap.size (w.alloc o):=rfl
theorem run_program (w:World):(program).run P w = .ok P w:=rfl
theorem run_v (s:Sem Value):(do pure (Next.value (← s)):Sem Next).run P w=(match s.run P w with | .ok v w'=>.ok (.value v) w' | .halt h w'=>.halt h w'):=by
 rw [Sem.run_bind];cases s.run P w <;> simp [Result.andThen,pure]
theorem run_u (s:Sem Unit):(do s;pure Next.skip:Sem Next).run P w=(match s.run P w with | .ok _ w'=>.ok .skip w' | .halt h w'=>.halt h w'):=by
 rw [Sem.run_bind];cases s.run P w <;> simp [Result.andThen,pure]
theorem run_loadAt1 {t:TypeId} {b o:Nat} (ha:aggOf P t=some false) (h:loadO go w o w.heap[b]?) :
  ∃v,(Instr.loadAt t (.pointer (some ⟨b,o,none⟩))).run P w = .ok v w∧go v w:=by
 unfold loadO at h
 split at h
 ·rename_i c t' f hb
  unfold loadV at h
  split at h
  ·rename_i v hv
   refine ⟨v, ?_,h⟩
   simp [Instr.loadAt,Instr.sureAddr,loadVar,Sem.run_bind,Sem.run,pure,run_isAgg ha,Result.andThen,load_at (P:=P) hb hv]
  ·exact h.elim
 ·exact h.elim
theorem run_loadAtN {t:TypeId} {b o n:Nat} (ha:aggOf P t=some true) (hs:csz P t=some n) (h:loadNO go w o n w.heap[b]?) :
  ∃v,(Instr.loadAt t (.pointer (some ⟨b,o,none⟩))).run P w = .ok v w∧go v w:=by
 unfold loadNO at h
 split at h
 ·rename_i c t' f hb
  obtain ⟨hn,h⟩:=h
  refine ⟨_, ?_,h⟩
  have:=loadCells_at (P:=P) (o:=o) hb n 0 #[] (by omega)
  simp [Instr.loadAt,Instr.sureAddr,loadVar,Sem.run_bind,Sem.run,pure,run_isAgg ha,run_sizeOf hs,Result.andThen,loadCells,this]
 ·exact h.elim
theorem run_storeAt1 {t:TypeId} {b o:Nat} {v:Value} (hs:csz P t=some 1) (h:storeO go w b o v w.heap[b]?) :
  ∃w',(Instr.storeAt t (.pointer (some ⟨b,o,none⟩)) v).run P w = .ok () w'∧go undef w':=by
 unfold storeO at h
 split at h
 ·rename_i c t' f hb
  obtain ⟨⟨h1,h2,h3⟩,h⟩:=h
  refine ⟨_, ?_,h⟩
  have hst:=store_at (P:=P) hb h1 h2 h3
  have hc:v.cells = #[v]:=by cases v <;> first|rfl|simp [isPlain] at h3
  simp [Instr.storeAt,Instr.sureAddr,storeVar,Sem.run_bind,Sem.run,pure,run_sizeOf hs,Result.andThen,hc,storeCells,add_off,hst]
 ·exact h.elim
theorem run_storeAtN {t:TypeId} {b o n:Nat} {cs:Array Value} (hs:csz P t=some n) (h:storeNO go w b o n cs w.heap[b]?) :
  ∃w',(Instr.storeAt t (.pointer (some ⟨b,o,none⟩)) (.agg cs)).run P w = .ok () w'∧go undef w':=by
 unfold storeNO at h
 split at h
 ·rename_i c t' f hb
  obtain ⟨⟨h1,h2,h3,h4⟩,h⟩:=h
  subst h3
  refine ⟨_, ?_,h⟩
  have hst:=storeCells_at (P:=P) cs.toList (o:=o) (i:=0) hb (by simpa [h1] using h2) (by simpa using h4)
  simp only [Instr.storeAt,Instr.sureAddr,storeVar,Sem.run_bind,Sem.run,pure,run_sizeOf hs,Result.andThen,Value.cells,h1,ne_eq,not_true_eq_false,if_false]
  rw [hst];rfl
 ·exact h.elim
variable {P:Program} {go:Value→World→Prop} {ρ:Env} {ds:List Deferred} {w:World}
theorem upon_v {s:Sem Value} {K:Value→World→Prop} (h:∃v w',s.run P w = .ok v w'∧K v w'):upon P K ((do pure (Next.value (← s)):Sem Next).run P w):=by
 obtain ⟨v,w',e,k⟩:=h
 rw [run_v,e];exact k
theorem upon_u {s:Sem Unit} {K:Value→World→Prop} (h:∃w',s.run P w = .ok () w'∧K undef w'):upon P K ((do s;pure Next.skip:Sem Next).run P w):=by
 obtain ⟨w',e,k⟩:=h
 rw [run_u,e];exact k
theorem callFunc_ok {f:FuncId} {args:Array Value} (h:okF P f=true):(callFunc f args).run P w = .ok (.enter f args) w:=by
 unfold okF at h
 cases hf:P.funcs[f]? with
 | none=>simp [hf] at h
 | some fn =>
  simp only [hf,Bool.and_eq_true,Bool.not_eq_true'] at h
  have hb:fn.body.isNone=false:=by cases hh:fn.body <;> simp_all
  have hn:fn.name≠"runtime.NumGoroutine":=by simpa using h.1
  have hb':fn.body≠none:=by intro e;simp [e] at hb
  simp [callFunc,program,Sem.run_bind,Sem.run,Result.andThen,pure,hf,hn,hb']
theorem sound_iop {op:BinOp} {k k':IntKind} {m n:Int} (hk:k=k'∨op = .shl∨op = .shr) {v:Value} (h:iopV k m n op=some v) (t:TypeId) :
  (binOp op t (.int k m) (.int k' n)).run P w = .ok v w:=by
 cases op <;> simp only [reduceCtorEq,or_false,or_true] at hk <;> simp only [iopV] at h <;>
  first
  | (subst hk;simp only [Option.some.injEq] at h;subst h;simp [binOp,Op.intArith,Op.intCmp,Op.intBits,pure])
  | (subst hk;split at h <;> simp only [reduceCtorEq,Option.some.injEq] at h;subst h;rename_i hz;simp [binOp,Op.intDiv,hz,pure])
  | (split at h <;> simp only [reduceCtorEq,Option.some.injEq] at h;subst h;rename_i hz;simp [binOp,Op.shift,hz,pure])
theorem sound_sop {op:BinOp} {a b:ByteArray} {v:Value} (h:sopV a b op=some v) (t:TypeId):(binOp op t (.string a) (.string b)).run P w = .ok v w:=by
 cases op <;> simp only [sopV,reduceCtorEq,Option.some.injEq] at h <;>
  first
  | (subst h;simp [binOp,Op.stringOp,pure])
  | (split at h <;> simp only [reduceCtorEq,Option.some.injEq] at h;subst h;rename_i hz;simp only [binOp,Op.stringOp];rw [if_neg hz];rfl)
def guardOk (x y:Operand):Value→Value→Bool
 | .nilIface,.nilIface=>(match x with | .const _=>true|_=>false) || (match y with | .const _=>true|_=>false)
 | .agg _,.agg _=>false
 | _,_=>true
theorem run_guard_plain {op:BinOp} {t:TypeId} {x y:Operand} {a b:Value} (h:guardOk x y a b=true) :
  (eqGuard op t x y a b).run P w = .ok () w:=by
 unfold guardOk at h
 cases op <;> first
  | rfl
  | (split at h
     ·cases x <;> cases y <;> first|rfl|(simp at h;done)
     ·contradiction
     ·rename_i h1 h2
      unfold eqGuard
      rw [if_neg (by decide)]
      split
      ·exact (h1 rfl rfl).elim
      ·exact (h2 _ _ rfl rfl).elim
      ·rfl)
theorem sound_ext {i:Nat} {v:Value} (h:extK go w i v):∃x w',(Instr.extract v i).run P w = .ok x w'∧go x w':=by
 unfold extK at h
 split at h
 ·rename_i vs
  unfold loadV at h
  split at h
  ·rename_i x hx;exact ⟨x,w,by simp [Instr.extract,hx,pure],h⟩
  ·exact h.elim
 ·exact h.elim
theorem run_asIntOf (k:IntKind) (i:Int):(asIntOf (.int k i)).run P w = .ok (k,i) w:=rfl
theorem run_bound {k:IntKind} {i:Int} {y:Nat} {c:BoundsCode} (h0:0≤i) (h1:i≤y):(Instr.sliceBound (.int k i) y c).run P w = .ok i.toNat w:=by
 simp [Instr.sliceBound,Sem.run_bind,run_asIntOf,Result.andThen,h0,h1,pure]
theorem run_bounds {b:Bool} {len cap:Nat} {lo hi:Option Value} {l h:Int} (el:boundOf 0 lo=some l) (eh:boundOf len hi=some h) (h0:0≤l) (h1:l≤h) (h2:h≤cap) :
  (Instr.sliceBounds b len cap lo hi none).run P w = .ok (l.toNat,h.toNat,cap) w:=by
 have e1:∀(w:World),((match hi with|some v=>Instr.sliceBound v cap (if b then .sliceAcap else .sliceAlen)|none=>pure len):Sem Nat).run P w = .ok h.toNat w:=by
  intro w
  cases hi with
  | none=>simp only [boundOf,Option.some.injEq] at eh;subst eh;simp [pure]
  | some v =>
   cases v <;> simp only [boundOf,reduceCtorEq,Option.some.injEq] at eh
   subst eh
   exact run_bound (by omega) h2
 have e2:∀(w:World),((match lo with|some v=>Instr.sliceBound v h.toNat .sliceB|none=>pure 0):Sem Nat).run P w = .ok l.toNat w:=by
  intro w
  cases lo with
  | none=>simp only [boundOf,Option.some.injEq] at el;subst el;simp [pure]
  | some v =>
   cases v <;> simp only [boundOf,reduceCtorEq,Option.some.injEq] at el
   subst el
   exact run_bound h0 (by omega)
 cases hi with
 | none =>
  have e1':=e1 w
  have e2':=e2 w
  cases lo with
  | none=>simp [Instr.sliceBounds,Sem.run_bind,pure,Sem.run,Result.andThen] at e1' e2' ⊢; omega
  | some v=>simp [Instr.sliceBounds,Sem.run_bind,pure,Sem.run,Result.andThen] at e1' e2' ⊢; rw [e1'];simp [e2']
 | some u =>
  have e1':=e1 w
  have e2':=e2 w
  cases lo with
  | none=>simp [Instr.sliceBounds,Sem.run_bind,pure,Sem.run,Result.andThen] at e1' e2' ⊢; rw [e1'];simp [e2']
  | some v=>simp [Instr.sliceBounds,Sem.run_bind,pure,Sem.run,Result.andThen] at e1' e2' ⊢; rw [e1'];simp [e2']
end Go.Vc
