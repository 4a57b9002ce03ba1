import Derived.Test.YtpggpopbkmgodaaGreatDoorVnF
import Derived.Test.YtpggpopbkmgodaaGreatDoorVnC
import Derived.Maps.OwnSet
import Derived.Test.YtpggpopbkmgodaaGreatDoorVrK
import Derived.Sort.Walk0
import Derived.Sort.KeysCollected
import Derived.Maps.Ext
import Derived.DeepKeys
import Derived.Test.YtpggpopbkmgodaaGreatDoorVrI
set_option linter.unusedSimpArgs false
set_option linter.unusedVariables false
set_option linter.unusedSectionVars false
set_option linter.unnecessarySimpa false
namespace Go.Oct
open Go Go.Vc Go.VrA Go.VrB Go.VrE Go.VrH Go.VrI Go.VrJ Go.VrK Go.VrL Go.Tal
set_option maxRecDepth 100000
def IsNs (w:World) (v:Value) (l:List Nat):Prop :=
 (∃a c,v = .slice a l.length c)∧∀(i:Nat) x,l[i]? = some x→∃b o c cur t f,v = .slice (some ⟨b,o,none⟩) l.length c∧w.heap[b]? = some (.cells cur t f)∧cur[o+i]? = some (.int .u64 (x:Int))
theorem IsNs.keep {w w':World} {v:Value} {l:List Nat} (h:IsNs w v l) (hm:Mod (fun _=>False) w w'):IsNs w' v l :=
 ⟨h.1,fun i x hx=>by obtain ⟨b,o,c,cur,t,f,h1,h2,h3⟩:=h.2 i x hx;exact ⟨b,o,c,cur,t,f,h1,hm.keep h2 id,h3⟩⟩
theorem row_good (l:List Nat) (hl:l.length<18446744073709551616) (hb:∀n∈l,n<18446744073709551616):(rowOf l).good:=by
 have hmin:∀(l:List Nat) (a:Nat),a<18446744073709551616→l.foldl min a<18446744073709551616:=by
  intro l
  induction l with
  | nil=>intro a h;exact h
  | cons x r ih=>intro a h;exact ih _ (by omega)
 refine ⟨hl, ?_, ?_, ?_,by simp [rowOf], ?_⟩
 ·show sumN l<_
  rcases List.eq_nil_or_concat l with rfl|⟨r,x,rfl⟩
  ·decide
  ·rw [List.concat_eq_append,sumN_append];exact Nat.mod_lt _ (by decide)
 ·show minN l<_
  cases l with
  | nil=>decide
  | cons x r=>exact hmin r x (hb x (by simp))
 ·show maxN l<_
  by_cases h0:l=[]
  ·subst h0;decide
  ·exact hb _ (maxN_mem l h0)
 ·intro n hn
  have hn':n∈(List.range 65).map (cAt l):=hn
  obtain ⟨i,_,rfl⟩:=List.mem_map.1 hn'
  exact Nat.lt_of_le_of_lt List.countP_le_length hl
end Go.Oct
namespace Go.Oct
open Go
abbrev MG (α:Type):=List (List UInt8 × α)
section
variable {α:Type} (val:α→Value)
def encG (m:MG α):List (Lit × DataW Value):=m.map fun p=>(.string p.1,.held (val p.2))
def DG (m:MG α):DataW Value:=.map (encG val m)
def insG (x:List UInt8 × α):MG α→MG α
 | []=>[x]
 | y :: r=>if bytesBefore x.1 y.1 then x :: y :: r else y :: insG x r
def putG (k:List UInt8) (v:α) (m:MG α):MG α:=insG (k,v) (m.filter fun p => !(p.1 == k))
def lookG (k:List UInt8):MG α→Option α
 | []=>none
 | p :: r=>if p.1 == k then some p.2 else lookG k r
theorem encG_ins (x:List UInt8 × α) (m:MG α):encG val (insG x m)=DataW.insert (.string x.1,.held (val x.2)) (encG val m):=by
 induction m with
 | nil=>rfl
 | cons y r ih =>
  have hb:∀(a b:List UInt8 × α),((Lit.string a.1,DataW.held (val a.2)):Lit × DataW Value).1.before ((Lit.string b.1,DataW.held (val b.2)):Lit × DataW Value).1=bytesBefore a.1 b.1:=fun _ _=>rfl
  show encG val (if bytesBefore x.1 y.1 then x :: y :: r else y :: insG x r)=DataW.insert _ ((Lit.string y.1,DataW.held (val y.2)) :: encG val r)
  by_cases h:bytesBefore x.1 y.1=true
  ·rw [if_pos h,DataW.insert,if_pos (by rw [hb];exact h)];rfl
  ·rw [if_neg h,DataW.insert,if_neg (by rw [hb];exact h),← ih];rfl
theorem encG_filter (k:List UInt8) (m:MG α):encG val (m.filter fun p => !(p.1 == k))=(encG val m).filter fun p => !p.1.sameKey (.string k):=by
 induction m with
 | nil=>rfl
 | cons y r ih =>
  simp only [encG,Zae,List.filter_cons,Lit.sameKey] at ih ⊢
  split
  ·simp only [Zae];congr 1
  ·exact ih
theorem DG_put (k:List UInt8) (v:α) (m:MG α):(DG val m).put (.string k) (.held (val v))=DG val (putG k v m):=by
 simp only [DG,DataW.put,putG,encG_ins,encG_filter]
theorem DG_has (k:List UInt8) (m:MG α):Maps.has (DG val m) (.string k)=(lookG k m).isSome:=by
 induction m with
 | nil=>rfl
 | cons y r ih =>
  simp only [DG,encG,Maps.has,Zae,List.any_cons,Lit.sameKey,lookG] at ih ⊢
  by_cases h:y.1 == k
  ·simp [h]
  ·simp only [h,Zbz];simpa using ih
theorem DG_at (k:List UInt8) (z:Value) (m:MG α):(DG val m).atKey (.string k) (.held z) = .held (((lookG k m).map val).getD z):=by
 induction m with
 | nil=>rfl
 | cons y r ih =>
  simp only [DG,encG,DataW.atKey,Zae,List.find?_cons,Lit.sameKey,lookG] at ih ⊢
  by_cases h:y.1 == k
  ·simp [h]
  ·simp only [h] at ih ⊢; simpa using ih
theorem look_ins_same (k:List UInt8) (v:α) (m:MG α) (h:∀p∈m,p.1≠k):lookG k (insG (k,v) m)=some v:=by
 induction m with
 | nil=>simp [insG,lookG]
 | cons y r ih =>
  unfold insG
  split
  ·simp [lookG]
  ·have hy:(y.1 == k)=false:=by simpa using h y (by simp)
   rw [lookG,hy]
   exact ih (fun p hp=>h p (by simp [hp]))
theorem look_ins_other (k j:List UInt8) (v:α) (m:MG α) (h:j≠k):lookG j (insG (k,v) m)=lookG j m:=by
 have hk:(k == j)=false:=by simpa using fun e=>h e.symm
 induction m with
 | nil=>simp [insG,lookG,hk]
 | cons y r ih =>
  unfold insG
  split
  ·show lookG j ((k,v) :: y :: r)=_
   rw [lookG];simp [hk]
  ·rw [lookG,lookG,ih]
theorem look_filter (k j:List UInt8) (m:MG α) (h:j≠k):lookG j (m.filter fun p => !(p.1 == k))=lookG j m:=by
 induction m with
 | nil=>rfl
 | cons y r ih =>
  rw [List.filter_cons]
  by_cases hy:y.1=k
  ·have e:(!(y.1 == k))=false:=by simp [hy]
   rw [e,if_neg (by decide),ih,lookG]
   have:(y.1 == j)=false:=by simpa [hy] using fun e=>h e.symm
   rw [this];rfl
  ·have e:(!(y.1 == k))=true:=by simp [hy]
   rw [e,if_pos rfl,lookG,lookG,ih]
theorem lookG_put (k j:List UInt8) (v:α) (m:MG α):lookG j (putG k v m)=if j=k then some v else lookG j m:=by
 unfold putG
 by_cases h:j=k
 ·subst h
  rw [if_pos rfl]
  refine look_ins_same _ _ _ (fun p hp => ?_)
  have:=(List.mem_filter.1 hp).2
  simpa using this
 ·rw [if_neg h,look_ins_other _ _ _ _ h,look_filter _ _ _ h]
def keysG (m:MG α):List (List UInt8):=m.map (·.1)
theorem mem_insG (x p:List UInt8 × α) (m:MG α):p∈insG x m ↔ p=x∨p∈m:=by
 induction m with
 | nil=>simp [insG]
 | cons y r ih =>
  unfold insG
  split
  ·simp
  ·simp only [Zbo,ih]
   constructor
   ·rintro (h|h|h)
    ·exact .inr (.inl h)
    ·exact .inl h
    ·exact .inr (.inr h)
   ·rintro (h|h|h)
    ·exact .inr (.inl h)
    ·exact .inl h
    ·exact .inr (.inr h)
theorem nodup_insG (x:List UInt8 × α) (m:MG α) (h:(keysG m).Nodup) (hx:x.1 ∉ keysG m):(keysG (insG x m)).Nodup:=by
 induction m with
 | nil=>simp [insG,keysG]
 | cons y r ih =>
  unfold insG
  split
  ·exact List.nodup_cons.2 ⟨hx,h⟩
  ·have h':=List.nodup_cons.1 h
   refine List.nodup_cons.2 ⟨fun hm => ?_,ih h'.2 (fun hm=>hx (by simp [keysG] at hm ⊢; exact .inr hm))⟩
   obtain ⟨p,hp,he⟩:=List.mem_map.1 hm
   rcases (mem_insG x p r).1 hp with rfl|hp'
   ·exact hx (by simp [keysG,he])
   ·exact h'.1 (List.mem_map.2 ⟨p,hp',he⟩)
theorem nodup_putG (k:List UInt8) (v:α) (m:MG α) (h:(keysG m).Nodup):(keysG (putG k v m)).Nodup:=by
 refine nodup_insG _ _ ?_ ?_
 ·exact h.sublist ((List.filter_sublist).map _)
 ·intro hm
  obtain ⟨p,hp,he⟩:=List.mem_map.1 hm
  have:=(List.mem_filter.1 hp).2
  simp [he] at this
theorem lookG_mem (k:List UInt8) (m:MG α):(lookG k m).isSome ↔ k∈keysG m:=by
 induction m with
 | nil=>simp [lookG,keysG]
 | cons y r ih =>
  simp only [lookG,keysG,Zae,Zbo] at ih ⊢
  by_cases h:y.1=k
  ·simp [h]
  ·have e:(y.1 == k)=false:=by simpa using h
   rw [e]
   simp only [Bool.false_eq_true,Zaf,ih]
   constructor
   ·exact .inr
   ·rintro (x|x)
    ·exact (h x.symm).elim
    ·exact x
end
end Go.Oct
namespace Go.Tal
open Go Go.Oct
abbrev Ac:=List UInt8 × Nat
def numsAt (k:List UInt8) (l:List Ac):List Nat:=(l.filter fun a=>a.1 == k).map (·.2)
theorem numsAt_append (k:List UInt8) (l m:List Ac):numsAt k (l ++ m)=numsAt k l ++ numsAt k m:=by simp [numsAt]
theorem numsAt_one (k:List UInt8) (a:Ac):numsAt k [a]=if a.1=k then [a.2] else []:=by
 by_cases h:a.1=k <;> simp [numsAt,h]
theorem numsAt_len (k:List UInt8) (l:List Ac):(numsAt k l).length≤l.length:=by
 unfold numsAt;rw [List.length_map];exact List.length_filter_le _ _
def Counts (m:MG Rw) (l:List Ac):Prop:=(keysG m).Nodup∧∀k,lookG k m=if numsAt k l=[] then none else some (rowOf (numsAt k l))
def Lists (m:MG (List Nat)) (l:List Ac):Prop:=(keysG m).Nodup∧∀k,lookG k m=if numsAt k l=[] then none else some (numsAt k l)
theorem Counts.nil:Counts [] []:=⟨by simp [keysG],fun _=>rfl⟩
theorem Lists.nil:Lists [] []:=⟨by simp [keysG],fun _=>rfl⟩
theorem Counts.get {m:MG Rw} {l:List Ac} (h:Counts m l) (k:List UInt8):(lookG k m).getD Rw.zero=rowOf (numsAt k l):=by
 rw [h.2 k]
 by_cases hn:numsAt k l=[]
 ·rw [if_pos hn,hn,rowOf_nil];rfl
 ·rw [if_neg hn];rfl
theorem Lists.get {m:MG (List Nat)} {l:List Ac} (h:Lists m l) (k:List UInt8):(lookG k m).getD []=numsAt k l:=by
 rw [h.2 k]
 by_cases hn:numsAt k l=[]
 ·rw [if_pos hn,hn];rfl
 ·rw [if_neg hn];rfl
theorem Counts.add {m:MG Rw} {l:List Ac} (h:Counts m l) (a:Ac) (ha:a.2<18446744073709551616) (hl:l.length<18446744073709551615):Counts (putG a.1 (((lookG a.1 m).getD Rw.zero).plus (Rw.one a.2)) m) (l ++ [a]):=by
 refine ⟨nodup_putG _ _ _ h.1,fun k => ?_⟩
 rw [lookG_put,numsAt_append,numsAt_one,h.get]
 by_cases hk:k=a.1
 ·subst hk
  rw [if_pos rfl,if_pos rfl,if_neg (by simp),row_plus _ _ ha (Nat.lt_of_le_of_lt (numsAt_len _ _) hl)]
 ·have e:(if a.1=k then [a.2] else [])=[]:=if_neg (fun e=>hk e.symm)
  rw [if_neg hk,e,List.append_nil]
  exact h.2 k
theorem Lists.add {m:MG (List Nat)} {l:List Ac} (h:Lists m l) (a:Ac):Lists (putG a.1 ((lookG a.1 m).getD [] ++ [a.2]) m) (l ++ [a]):=by
 refine ⟨nodup_putG _ _ _ h.1,fun k => ?_⟩
 rw [lookG_put,numsAt_append,numsAt_one,h.get]
 by_cases hk:k=a.1
 ·subst hk
  rw [if_pos rfl,if_pos rfl,if_neg (by simp)]
 ·have e:(if a.1=k then [a.2] else [])=[]:=if_neg (fun e=>hk e.symm)
  rw [if_neg hk,e,List.append_nil]
  exact h.2 k
theorem keys_same {m:MG Rw} {n:MG (List Nat)} {l:List Ac} (h:Counts m l) (g:Lists n l) (k:List UInt8):k∈keysG m ↔ k∈keysG n:=by
 rw [← lookG_mem,← lookG_mem,h.2 k,g.2 k]
 by_cases hn:numsAt k l=[] <;> simp [hn]
theorem keys_len {m:MG Rw} {n:MG (List Nat)} {l:List Ac} (h:Counts m l) (g:Lists n l):m.length=n.length:=by
 have hp:(keysG m).Perm (keysG n):=(List.perm_ext_iff_of_nodup h.1 g.1).2 (keys_same h g)
 have:=hp.length_eq
 simpa [keysG] using this
theorem at_key {m:MG Rw} {n:MG (List Nat)} {l:List Ac} (h:Counts m l) (g:Lists n l) {k:List UInt8} (hk:k∈keysG m):lookG k m=some (rowOf (numsAt k l))∧lookG k n=some (numsAt k l):=by
 have h1:=(lookG_mem k m).2 hk
 rw [h.2 k] at h1
 by_cases hn:numsAt k l=[]
 ·rw [if_pos hn] at h1;cases h1
 ·exact ⟨by rw [h.2 k,if_neg hn],by rw [g.2 k,if_neg hn]⟩
end Go.Tal
namespace Go.Oct
open Go
theorem before_lessG:∀a b:List UInt8,bytesBefore a b=Op.bytesLess a b
 | [],[]=>rfl
 | [],_ :: _=>rfl
 | _ :: _,[]=>rfl
 | a :: r,b :: s=>by simp only [bytesBefore,Op.bytesLess,before_lessG r s]
section
variable {α:Type} {val:α→Value}
def SortedG (m:MG α):Prop:=(keysG m).Pairwise fun p q=>p<q
theorem sort_keysG {m:MG α} (h:SortedG m) {ss:List (List UInt8)} (hp:ss.Perm (keysG m)):ss.mergeSort (fun x y=>decide (x≤y))=keysG m:=by
 have h1:=mergeSort_of_perm hp
 have h2:(keysG m).Pairwise (fun a b=>leB a b=true):=h.imp fun hab=>by simp only [leB,decide_eq_true_eq];exact List.le_of_lt hab
 exact h1.trans (List.mergeSort_of_pairwise h2)
theorem sortedG_of_canon {m:MG α} (h:Maps.Canon (DG val m)):SortedG m:=by
 obtain ⟨es,he,hp,_⟩:=h
 have e:encG val m=es:=by injection he
 subst e
 unfold encG at hp
 rw [List.pairwise_map] at hp
 unfold SortedG keysG
 rw [List.pairwise_map]
 refine hp.imp fun {p q} hpq => ?_
 have:bytesBefore p.1 q.1=true:=hpq
 rw [before_lessG,Go.Proofs.bytesLess_eq] at this
 exact of_decide_eq_true this
theorem strKeysG (m:MG α):strKeys (DG val m)=keysG m:=by
 simp [strKeys,DG,encG,keysG,Function.comp_def,strOf]
theorem sizeG (m:MG α):Maps.size (DG val m)=m.length:=by simp [Maps.size,DG,encG]
theorem look_memG {m:MG α} (hs:SortedG m) {p:List UInt8 × α} (hp:p∈m):lookG p.1 m=some p.2:=by
 induction m with
 | nil=>cases hp
 | cons y r ih =>
  have h':=List.pairwise_cons.1 hs
  unfold lookG
  rcases List.mem_cons.1 hp with rfl|hp'
  ·simp
  ·have hlt:y.1<p.1:=h'.1 p.1 (List.mem_map.2 ⟨p,hp',rfl⟩)
   have hne:¬y.1=p.1:=fun e=>by rw [e] at hlt;exact List.lt_irrefl _ hlt
   rw [if_neg (by simpa using hne)]
   exact ih h'.2 hp'
end
end Go.Oct
namespace Go.Tal
open Go Go.Oct
theorem cls_half (n:Nat) (h0:0<n) (h:n<18446744073709551616):cls n=1+cls (n/2):=Lib.bitLen_half n (by omega) h
theorem minN_snoc (l:List Nat) (n:Nat):minN (l ++ [n])=if l.length=0∨n<minN l then n else minN l:=by
 by_cases h:l=[]
 ·subst h;simp [minN]
 ·have h':l.length≠0:=by simpa using h
  rw [minN_append l h]
  split <;> omega
theorem maxN_snoc (l:List Nat) (n:Nat):maxN (l ++ [n])=if maxN l<n then n else maxN l:=by
 rw [maxN_append];split <;> omega
theorem cl_snoc (l:List Nat) (n:Nat):(List.range 65).map (cAt (l ++ [n]))=((List.range 65).map (cAt l)).set (cls n) (cAt l (cls n)+1):=by
 apply List.ext_getElem?
 intro i
 rw [List.getElem?_set]
 by_cases hi:i<65
 ·by_cases hc:cls n=i
  ·subst hc;simp [hi,cAt_append]
  ·simp [hi,hc,cAt_append]
 ·have h2:(List.range 65)[i]? = none:=by simp;omega
  by_cases hc:cls n=i
  ·subst hc;simp [h2];omega
  ·simp [h2,hc]
theorem cAt_get (l:List Nat) (i:Nat) (hi:i<65):((List.range 65).map (cAt l))[i]? = some (cAt l i):=by simp [hi]
theorem row_snoc (l:List Nat) (n:Nat):rowOf (l ++ [n])=⟨l.length+1,(sumN l+n)%18446744073709551616,if l.length=0∨n<minN l then n else minN l,if maxN l<n then n else maxN l,((List.range 65).map (cAt l)).set (cls n) (cAt l (cls n)+1)⟩:=by
 unfold rowOf
 rw [sumN_append,minN_snoc,maxN_snoc,cl_snoc,List.length_append,List.length_singleton]
def u64L (n:Nat):Lit:=.int .u64 (n:Int)
def Rw.lits (r:Rw):List Lit:=(r.c :: r.s :: r.lo :: r.hi :: r.cl).map u64L
theorem u64L_inj {a b:Nat} (h:u64L a=u64L b):a=b:=by
 unfold u64L at h
 injection h with _ h
 omega
theorem map_inj:∀(a b:List Nat),a.map u64L=b.map u64L→a=b
 | [],[],_=>rfl
 | [],_ :: _,h=>by simp at h
 | _ :: _,[],h=>by simp at h
 | x :: a,y :: b,h=>by
  simp only [Zae,List.cons.injEq] at h
  rw [u64L_inj h.1,map_inj a b h.2]
theorem lits_inj (r s:Rw):r.lits=s.lits ↔ r=s:=by
 constructor
 ·intro h
  have:=map_inj _ _ h
  cases r;cases s
  simp only [List.cons.injEq] at this
  obtain ⟨rfl,rfl,rfl,rfl,rfl⟩:=this
  rfl
 ·rintro rfl;rfl
noncomputable instance:DecidableEq Rw:=fun _ _=>Classical.propDecidable _
theorem u64L_wf (n:Nat) (h:n<18446744073709551616):(Lit.int .u64 (n:Int)).wf=true:=by
 simp only [Lit.wf,Zbk,IntKind.min,IntKind.max,IntKind.signed,IntKind.bits]
 simp
 omega
section
variable {P:Program}
theorem mapM_some {α β:Type} (f:α→Option β) (g:α→β):∀(l:List α),(∀x∈l,f x=some (g x))→l.mapM f=some (l.map g)
 | [],_=>rfl
 | x :: l,h=>by
  rw [List.mapM_cons,h x (by simp),mapM_some f g l (fun y hy=>h y (by simp [hy]))]
  rfl
theorem mapM_of_map {α β γ:Type} (p:α→β) (f:β→Option γ):∀(l:List α),l.mapM (fun x=>f (p x))=(l.map p).mapM f
 | []=>rfl
 | x :: l=>by
  rw [List.map_cons,List.mapM_cons,List.mapM_cons,mapM_of_map p f l]
theorem keyLits_u64 {tu:TypeId} (htu:P.underlying tu=some (.int .u64)) (d:Nat) (n:Nat) (h:n<18446744073709551616):P.keyLits (d+1) tu [.int .u64 (n:Int)]=some [u64L n]:=by
 unfold Program.keyLits
 simp only [htu,u64L_wf n h,and_self,Zaa]
 rfl
theorem flat1:∀l:List Nat,(l.map fun n=>[u64L n]).flatten=l.map u64L
 | []=>rfl
 | a :: l=>by rw [List.map_cons,List.flatten_cons,flat1 l];rfl
theorem keyLits_arr {ta tu:TypeId} {m:Nat} (hta:P.underlying ta=some (.array m tu)) (hca:P.cellsOf ta=m) (htu:P.underlying tu=some (.int .u64)) (hcu:P.cellsOf tu=1) (d:Nat) (l:List Nat) (hl:l.length=m) (hb:∀n∈l,n<18446744073709551616) :
  P.keyLits (d+2) ta (l.map fun (n:Nat)=>.int .u64 (n:Int))=some (l.map u64L):=by
 unfold Program.keyLits
 simp only [hta,hca,hcu,List.length_map,hl,Zaa,Zbm]
 rw [mapM_some _ (fun i=>[u64L (l.getD i 0)])]
 ·rw [Option.map_some,← flat1]
  congr 2
  apply List.ext_getElem?
  intro i
  by_cases hi:i<m
  ·simp [hi,hl,List.getD_eq_getElem?_getD]
  ·simp [hi,hl]
 ·intro i hi
  have hi':i<l.length:=by rw [hl];simpa using hi
  have e:((l.map fun (n:Nat)=>Value.int .u64 (n:Int)).drop i).take 1=[.int .u64 ((l.getD i 0:Nat):Int)]:=by
   rw [List.drop_eq_getElem_cons (by simpa using hi')]
   simp [hi']
  rw [e]
  refine keyLits_u64 htu d _ (hb _ ?_)
  simp [hi']
end
end Go.Tal
