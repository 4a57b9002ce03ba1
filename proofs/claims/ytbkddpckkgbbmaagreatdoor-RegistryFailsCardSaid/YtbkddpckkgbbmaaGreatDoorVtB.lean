import Derived.Test.YtbkddpckkgbbmaaGreatDoorVoV
import Derived.Test.YtbkddpckkgbbmaaGreatDoorProg
import Derived.Test.YtbkddpckkgbbmaaGreatDoorVcI
import Derived.Test.YtbkddpckkgbbmaaGreatDoorVcE
import Derived.ChangeArms
import Derived.DataReads
import Derived.Laws.Entries
set_option linter.unusedSimpArgs false
set_option linter.unusedVariables false
set_option linter.unusedSectionVars false
set_option linter.unnecessarySimpa false
namespace Go.Oct
open Go
def first (s : ByteArray) : Nat:=((s.data[0]?).getD 0).toNat
end Go.Oct
namespace Go.Oct
open Go Go.Vc Go.VrA
set_option maxRecDepth 100000
def m2 (C B : List UInt8) : M:=[(ckL,C),(qkL,B)]
theorem look_q (C B : List UInt8) : lookM qkL (m2 C B) = some B:=by rfl
theorem look_c (C B : List UInt8) : lookM ckL (m2 C B) = some C:=by rfl
theorem put_c (C B D : List UInt8) : putM ckL D (m2 C B) = m2 D B:=by rfl
theorem mk_toList (s : ByteArray) : (⟨s.data.toList.toArray⟩ : ByteArray) = s:=by cases s; simp
theorem cbytes_size (n : Nat) : (cbytes n).size = 9:=by simp [cbytes,ByteArray.size_append,big_size]
end Go.Oct
namespace Go.VrB
open Go Go.Vc
set_option maxRecDepth 100000
end Go.VrB
namespace Go.Oct
open Go Go.Vc Go.VrA Go.VrB
set_option maxRecDepth 100000
def messageK (queue : ByteArray) (n : Nat) : ByteArray × Int:=keyL [str ⟨#[109]⟩,str queue,num' n] []
def termK (at_ : Nat) (queue : ByteArray) (n : Nat) : ByteArray × Int:=keyL [str ⟨#[101]⟩,num' at_,str queue,num' n] []
end Go.Oct
namespace Go.Oct
open Go Go.Vc Go.VrA Go.VrB
set_option maxRecDepth 100000
structure Ms where
  queue : ByteArray
  id : Nat
  tries : Nat
  expiry : Nat
  body : ByteArray
def Ms.cells (q : Ms) : List Value:=[.string q.queue,.int .u64 q.id,.int .u32 q.tries,.int .u64 q.expiry,.string q.body]
def Ms.val (q : Ms) : Value:=.agg q.cells.toArray
def Ms.good (q : Ms) : Prop:=q.tries < 2 ^ 32∧q.expiry < 2 ^ 64∧q.body.size < 2 ^ 60
def mput (q : Ms) : ByteArray:=big q.tries 4 ++ big q.expiry 8 ++ textB q.body
def mbytes (q : Ms) : ByteArray:=big 1 1 ++ mput q
end Go.Oct
namespace Go.Vc
open Go Go.ChangeShapes
theorem choose_list {α : Type} {R : Nat→α→Prop} : ∀ (n : Nat),(∀ i,i < n→∃ x,R i x)→∃ l : List α,l.length = n∧∀ (i : Nat) x,l[i]? = some x→R i x:=by
  intro n
  induction n with
  | zero=>exact fun _=>⟨[],rfl,fun i x h=>by simp at h⟩
  | succ n ih =>
    intro h
    obtain ⟨l,hl,hr⟩:=ih (fun i hi=>h i (by omega))
    obtain ⟨x,hx⟩:=h n (by omega)
    refine ⟨l ++ [x],by simp [hl],fun i y hy => ?_⟩
    rw [List.getElem?_append] at hy
    split at hy
    · exact hr i y hy
    · rename_i hi
      have h1:=(List.getElem?_eq_some_iff.1 hy).1
      have h2 : i - l.length = 0:=by simpa using h1
      have h3 : i = n:=by omega
      rw [h2] at hy
      simp at hy
      rw [h3,← hy]; exact hx
section
variable {H : Type} {enc : TypeId × Value→H} {P : Program} {W : World} {base : Nat} {spare : Nat→Bool} {held : Bool}
theorem cells_at {a : Addr} {n : Nat} {cs : List Value} (h : W.cells? base a n = some cs) (hn : 0 < n) : ∃ b o cur t f,a = ⟨b,o,none⟩∧W.heap[b]? = some (.cells cur t f)∧o + n≤cur.size∧cur.extract o (o + n) = cs.toArray:=by
  obtain ⟨_,hlen,hc⟩:=World.cells?_some h
  obtain ⟨b,o,sp⟩:=a
  have h0:=hc 0 hn
  obtain ⟨c0,hc0⟩ : ∃ c0,cs[0]? = some c0:=⟨_,List.getElem?_eq_getElem (by omega)⟩
  rw [hc0] at h0
  have hsp : sp = none:=by simpa [Addr.add] using World.cell?_spot h0
  subst hsp
  have hheap : ∃ cur t f,W.heap[b]? = some (.cells cur t f):=by
    rw [Addr.add_lit] at h0
    unfold World.cell? at h0
    cases ho : W.heap[b]? with
    | none=>rw [ho] at h0; cases h0
    | some x =>
      rw [ho] at h0
      cases x with
      | cells cur t f=>exact ⟨cur,t,f,rfl⟩
      | _=>cases h0
  obtain ⟨cur,t,f,hb⟩:=hheap
  have hcell : ∀ i,i < n→cur[o + i]? = cs[i]?:=by
    intro i hi
    have:=hc i hi
    rw [Addr.add_lit] at this
    rw [← this]
    simp [World.cell?,hb]
  have hsz : o + n≤cur.size:=by
    have:=hcell (n - 1) (by omega)
    obtain ⟨c1,hc1⟩ : ∃ c1,cs[n - 1]? = some c1:=⟨_,List.getElem?_eq_getElem (by omega)⟩
    rw [hc1] at this
    have:=(Array.getElem?_eq_some_iff.1 this).1
    omega
  refine ⟨b,o,cur,t,f,rfl,hb,hsz, ?_⟩
  apply Array.ext
  · simp; omega
  · intro i h1 h2
    have hi : i < n:=by simp at h2; omega
    have:=hcell i hi
    rw [Array.getElem?_eq_getElem (by omega),List.getElem?_eq_getElem (by omega)] at this
    simpa using Option.some.inj this
theorem slice_list {α : Type} {t e : TypeId} {fuel : Nat} {x : DataW H × List MemPlace} {a0 : Option Addr} {len cap : Nat} (cells : α→List Value) (G : α→Prop) (s : Nat) (hs : 0 < s) (ht : P.underlying t = some (.slice e)) (hc : P.cellsOf e = s)
    (each : ∀ (n : Nat) cs y,DataW.trod enc P W base spare held n e cs = some y→∃ v,cs = cells v∧G v) (h : DataW.trod enc P W base spare held fuel t [.slice a0 len cap] = some x) :
    ∃ l : List α,len = l.length∧(∀ v ∈ l,G v)∧(a0 = none→len = 0∧cap = 0)∧len≤cap∧cap≤maxLen ∧
      ∀ (i : Nat) v,l[i]? = some v→∃ b o cur t f,a0 = some ⟨b,o,none⟩∧W.heap[b]? = some (.cells cur t f)∧o + i * s + s≤cur.size∧cur.extract (o + i * s) (o + i * s + s) = (cells v).toArray:=by
  rcases DataW.trod_slice ht h with ⟨h0,_⟩ | ⟨a,len',cap',elems,rest,n,_,h0,_,_,hl,hm,hlen,hel,_⟩
  · simp at h0
    obtain ⟨rfl,rfl,rfl⟩:=h0
    exact ⟨[],rfl,by simp,fun _=>⟨rfl,rfl⟩,Nat.le_refl _,by simp [maxLen],fun i v hv=>by simp at hv⟩
  · simp at h0
    obtain ⟨rfl,rfl,rfl⟩:=h0
    have hall : ∀ i,i < len→∃ v,G v∧W.cells? base (a.add (i * s)) s = some (cells v):=by
      intro i hi
      have:=hel i hi
      rw [hc] at this
      rw [List.getElem?_eq_getElem (by omega)] at this
      obtain ⟨cs,h1,h2⟩:=Option.bind_eq_some_iff.1 this
      obtain ⟨v,rfl,hg⟩:=each n cs _ h2
      exact ⟨v,hg,h1⟩
    obtain ⟨l,hll,hr⟩:=choose_list len hall
    refine ⟨l,hll.symm,fun v hv => ?_,(fun e=>by cases e),hl,hm,fun i v hv => ?_⟩
    · obtain ⟨i,hi⟩:=List.getElem?_of_mem hv
      exact (hr i v hi).1
    · have h1:=(hr i v hv).2
      have h00 : a.spot = none:=by
        have hz : 0 < l.length:=by have:=(List.getElem?_eq_some_iff.1 hv).1; omega
        obtain ⟨b,o,cur,t',f,ha,_⟩:=cells_at (hr 0 l[0] (List.getElem?_eq_getElem hz)).2 hs
        simp [Addr.add] at ha
        rw [ha]
      obtain ⟨ab,ao,asp⟩:=a
      simp only at h00
      subst h00
      rw [Addr.add_lit] at h1
      obtain ⟨b,o,cur,t',f,ha,hb,hsz,hex⟩:=cells_at h1 hs
      simp at ha
      obtain ⟨rfl,rfl⟩:=ha
      exact ⟨_,_,cur,t',f,rfl,hb,hsz,hex⟩
theorem trod_fields {t : TypeId} {fs : Array Field} {fuel : Nat} {cs : List Value} {x : DataW H × List MemPlace} (ht : P.underlying t = some (.struct fs)) (L : List (TypeId × Nat)) (hL : (fs.toList.map fun f=>(f.type,f.offset)) = L)
    (h : DataW.trod enc P W base spare held fuel t cs = some x) : cs.length = P.cellsOf t∧∀ p ∈ L,∃ n y,DataW.trod enc P W base spare held n p.1 ((cs.drop p.2).take (P.cellsOf p.1)) = some y:=by
  obtain ⟨xs,n,_,_,hl,hxl,hf⟩:=DataW.trod_struct ht h
  refine ⟨hl,fun p hp => ?_⟩
  rw [← hL] at hp
  obtain ⟨f,hfm,rfl⟩:=List.mem_map.1 hp
  obtain ⟨i,hi⟩:=List.getElem?_of_mem hfm
  have hi' : fs[i]? = some f:=by simpa using hi
  have:=hf i f hi'
  have hlt : i < xs.length:=by have:=(Array.getElem?_eq_some_iff.1 hi').1; omega
  rw [List.getElem?_eq_getElem hlt] at this
  exact ⟨n,_,this⟩
end
end Go.Vc
namespace Go.Oct
open Go Go.Vc Go.ChangeShapes
set_option maxRecDepth 100000
section
variable {H : Type} {enc : TypeId × Value→H} {W : World} {base : Nat} {spare : Nat→Bool} {held : Bool}
theorem wf_u64 {n : Int} (h : (Lit.int .u64 n).wf = true) : ∃ k : Nat,n = (k : Int)∧k < 2 ^ 64:=by
  simp only [Lit.wf,Zbo,IntKind.min,IntKind.max,IntKind.signed,IntKind.bits] at h
  exact ⟨n.toNat,by simp at h; omega,by simp at h; omega⟩
theorem wf_u32 {n : Int} (h : (Lit.int .u32 n).wf = true) : ∃ k : Nat,n = (k : Int)∧k < 2 ^ 32:=by
  simp only [Lit.wf,Zbo,IntKind.min,IntKind.max,IntKind.signed,IntKind.bits] at h
  exact ⟨n.toNat,by simp at h; omega,by simp at h; omega⟩
theorem wf_u8 {n : Int} (h : (Lit.int .u8 n).wf = true) : ∃ k : Nat,n = (k : Int)∧k < 256:=by
  simp only [Lit.wf,Zbo,IntKind.min,IntKind.max,IntKind.signed,IntKind.bits] at h
  exact ⟨n.toNat,by simp at h; omega,by simp at h; omega⟩
end
end Go.Oct
