import Derived.Test.YtpggpopbkmgodaaGreatDoorVmG
import Derived.Lib.ItoaNum
import Derived.Test.YtpggpopbkmgodaaGreatDoorVnC
import Derived.Test.YtpggpopbkmgodaaGreatDoorVnM
set_option linter.unusedSimpArgs false
set_option linter.unusedVariables false
set_option linter.unusedSectionVars false
set_option linter.unnecessarySimpa false
namespace Go.Tal
open Go
def lzN (y:Nat):Nat:=64-Lib.bitLen y
theorem norm (y:Nat) (h0:0<y) (hy:y<18446744073709551616):Lib.bitLen y≤64∧1≤Lib.bitLen y∧9223372036854775808≤y * 2^lzN y∧y * 2^lzN y<18446744073709551616:=by
 obtain ⟨h1,h2,h3⟩:=Lib.bitLenAux_bounds 64 y (by omega) (by omega)
 have h4:Lib.bitLen y≤64:=Lib.bitLen_le y 64 (by omega) (by omega)
 have e:Lib.bitLenAux 64 y=Lib.bitLen y:=rfl
 rw [e] at h1 h2 h3
 unfold lzN
 generalize Lib.bitLen y=b at *
 have hp:0<2^(64-b):=Nat.two_pow_pos _
 have e1:2^(b-1)*2^(64-b)=9223372036854775808:=by
  rw [← Nat.pow_add,show b-1+(64-b)=63 by omega]
 have e2:2^b * 2^(64-b)=18446744073709551616:=by
  rw [← Nat.pow_add,show b+(64-b)=64 by omega]
 have h5:=Nat.mul_le_mul_right (2^(64-b)) h2
 have h6:=(Nat.mul_lt_mul_right hp).2 h3
 rw [e1] at h5
 rw [e2] at h6
 exact ⟨h4,h1,h5,h6⟩
section
variable {hi lo y s:Nat}
theorem lo_split (hs:s≤64) (lo:Nat):lo * 2^s=lo/2^(64-s)*18446744073709551616+lo * 2^s%18446744073709551616:=by
 have e:(18446744073709551616:Nat)=2^(64-s)*2^s:=by rw [← Nat.pow_add,show 64-s+s=64 by omega]
 have h:=Nat.div_add_mod (lo * 2^s) 18446744073709551616
 have h2:lo * 2^s/18446744073709551616=lo/2^(64-s):=by
  rw [e];exact Nat.mul_div_mul_right _ _ (Nat.two_pow_pos _)
 rw [h2] at h
 rw [Nat.mul_comm (lo/2^(64-s))]
 exact h.symm
theorem high_lt (hs:s≤64) (hlo:lo<18446744073709551616):lo/2^(64-s)<2^s:=by
 rw [Nat.div_lt_iff_lt_mul (Nat.two_pow_pos _),← Nat.pow_add,show s+(64-s)=64 by omega]
 exact hlo
theorem moved (hs:s≤64):(hi * 2^s+lo/2^(64-s))*18446744073709551616+lo * 2^s%18446744073709551616=(hi * 18446744073709551616+lo)*2^s:=by
 have h:=lo_split hs lo
 have e:(hi * 18446744073709551616+lo)*2^s=hi * 2^s * 18446744073709551616+lo * 2^s:=by
  rw [Nat.add_mul,Nat.mul_right_comm]
 rw [e,Nat.add_mul]
 omega
theorem moved_lt (hs:s≤64) (hh:hi<y) (hlo:lo<18446744073709551616):hi * 2^s+lo/2^(64-s)<y * 2^s:=by
 have h1:=high_lt hs hlo
 have h2:(hi+1)*2^s≤y * 2^s:=Nat.mul_le_mul_right _ hh
 rw [Nat.add_mul] at h2
 omega
theorem moved_or (hs:s≤64) (hlo:lo<18446744073709551616):hi * 2^s ||| lo/2^(64-s)=hi * 2^s+lo/2^(64-s):=by
 rw [Nat.mul_comm hi]
 exact (Nat.two_pow_add_eq_or_of_lt (high_lt hs hlo) hi).symm
end
theorem mask32 (x:Nat):x &&& 4294967295=x%4294967296:=Nat.and_two_pow_sub_one_eq_mod x 32
theorem dig (U V B:Nat):(U * B+V/B)*B+V%B=U * (B * B)+V:=by rw [Nat.add_mul,Nat.mul_assoc,Nat.add_assoc,Nat.div_add_mod']
theorem quo_moved (hi lo y s:Nat) (hs:s≤64) (hy:0<y) :
  let Y:=y * 2^s;let U:=hi * 2^s+lo/2^(64-s);let V:=lo * 2^s%18446744073709551616
  let q1:=(U * 4294967296+V/4294967296)/Y;let r1:=(U * 4294967296+V/4294967296)%Y
  q1*4294967296+(r1*4294967296+V%4294967296)/Y=(hi * 18446744073709551616+lo)/y∧(r1*4294967296+V%4294967296)%Y=(hi * 18446744073709551616+lo)%y * 2^s:=by
 have hp:0<2^s:=Nat.two_pow_pos _
 have hm:=moved (hi:=hi) (lo:=lo) hs
 intro Y U V q1 r1
 obtain ⟨h1,h2⟩:=two_digits U (V/4294967296) (V%4294967296) Y (Nat.mul_pos hy hp)
 have e:(U * 4294967296+V/4294967296)*4294967296+V%4294967296=(hi * 18446744073709551616+lo)*2^s:=by
  rw [← hm]
  exact dig U V 4294967296
 rw [e] at h1 h2
 refine ⟨?_, ?_⟩
 ·rw [← h1];exact Nat.mul_div_mul_right _ _ hp
 ·rw [← h2];exact Nat.mul_mod_mul_right _ _ _
end Go.Tal
namespace Go.Vc
open Go
variable {P:Program} {ro:Option Nat} {n:Nat}
theorem vcOps_mono {K K':Env→List Deferred→World→Prop} (hk:∀ρ ds w,K ρ ds w→K' ρ ds w):∀(l:List In) (ρ:Env) (ds:List Deferred) (w:World),vcOps P l K ρ ds w→vcOps P l K' ρ ds w:=by
 intro l
 induction l with
 | nil=>intro ρ ds w h;exact hk _ _ _ h
 | cons x l ih =>
  intro ρ ds w h
  obtain ⟨g,d,i⟩:=x
  cases g with
  | none=>exact insVc_mono (fun v w' hv=>ih _ _ _ hv) h
  | some p =>
   obtain ⟨s,want⟩:=p
   simp only [vcOps] at h ⊢
   cases hg:gate (ρ s) want with
   | true=>rw [hg] at h;exact insVc_mono (fun v w' hv=>ih _ _ _ hv) h
   | false=>rw [hg] at h;exact ih _ _ _ h
theorem thenQ_mono {N N':Env→List Deferred→World→Prop} {Q Q':QT} (hn:∀ρ ds w,N ρ ds w→N' ρ ds w) (hq:∀e ρ ds w,Q e ρ ds w→Q' e ρ ds w):∀e ρ ds w,thenQ N Q e ρ ds w→thenQ N' Q' e ρ ds w:=by
 intro e ρ ds w h
 cases e with
 | normal=>exact hn _ _ _ h
 | _=>exact hq _ _ _ _ h
theorem blockQ_mono {id:Nat} {Q Q':QT} (hq:∀e ρ ds w,Q e ρ ds w→Q' e ρ ds w):∀e ρ ds w,blockQ id Q e ρ ds w→blockQ id Q' e ρ ds w:=by
 intro e ρ ds w h
 cases e with
 | exit j =>
  simp only [blockQ] at h ⊢
  split at h
  ·rename_i hj;rw [if_pos hj];exact hq _ _ _ _ h
  ·rename_i hj;rw [if_neg hj];exact hq _ _ _ _ h
 | _=>exact hq _ _ _ _ h
theorem condP_mono {A A' B B':Env→List Deferred→World→Prop} (ha:∀ρ ds w,A ρ ds w→A' ρ ds w) (hb:∀ρ ds w,B ρ ds w→B' ρ ds w) {ρ:Env} {ds:List Deferred} {w:World} {v:Value} (h:condP A B ρ ds w v):condP A' B' ρ ds w v:=by
 unfold condP at h ⊢
 split at h
 ·exact ha _ _ _ h
 ·exact hb _ _ _ h
 ·exact h.elim
def plainC:CC→Bool
 | .skip=>true
 | .seq a b=>plainC a && plainC b
 | .cond _ a b=>plainC a && plainC b
 | .block _ b=>plainC b
 | .loop b=>plainC b
 | .exit _=>true
 | .ret=>true
 | .ops _=>true
 | .draw .. => false
 | .range .. => false
 | .raw _=>false
theorem vc_mono:∀(c:CC),plainC c=true→∀ {Q Q':QT},(∀e ρ ds w,Q e ρ ds w→Q' e ρ ds w)→∀(ρ:Env) (ds:List Deferred) (w:World),vc P ro n c Q ρ ds w→vc P ro n c Q' ρ ds w:=by
 intro c
 induction c with
 | skip=>intro _ Q Q' hq ρ ds w h;exact hq _ _ _ _ h
 | exit id=>intro _ Q Q' hq ρ ds w h;exact hq _ _ _ _ h
 | ret=>intro _ Q Q' hq ρ ds w h;exact hq _ _ _ _ h
 | seq a b iha ihb =>
  intro hp Q Q' hq ρ ds w h
  simp only [plainC,Zbk] at hp
  exact iha hp.1 (thenQ_mono (fun ρ ds w hb=>ihb hp.2 hq ρ ds w hb) hq) ρ ds w h
 | cond c a b iha ihb =>
  intro hp Q Q' hq ρ ds w h
  simp only [plainC,Zbk] at hp
  exact condP_mono (fun ρ ds w ha=>iha hp.1 hq ρ ds w ha) (fun ρ ds w hb=>ihb hp.2 hq ρ ds w hb) h
 | block id b ih =>
  intro hp Q Q' hq ρ ds w h
  exact ih hp (blockQ_mono hq) ρ ds w h
 | loop b ih =>
  intro hp Q Q' hq ρ ds w h
  obtain ⟨I,h0,hs⟩:=h
  exact ⟨I,h0,fun m ρ ds w hI=>ih hp (thenQ_mono (fun _ _ _ x=>x) hq) ρ ds w (hs m ρ ds w hI)⟩
 | ops l=>intro _ Q Q' hq ρ ds w h;exact vcOps_mono (fun ρ ds w x=>hq .normal ρ ds w x) l ρ ds w h
 | _=>intro hp;cases hp
theorem vc_cut {c:CC} (hp:plainC c=true) (M:QT) {Q:QT} {ρ:Env} {ds:List Deferred} {w:World} (h:vc P ro n c M ρ ds w) (hq:∀e ρ ds w,M e ρ ds w→Q e ρ ds w):vc P ro n c Q ρ ds w:=vc_mono c hp hq ρ ds w h
end Go.Vc
namespace Go.Oct
open Go Go.Vc Go.VrA Go.VrK Go.VrL Go.Tal Go.Proofs.Tryz
set_option maxRecDepth 100000
theorem wr64 (n:Nat):IntKind.u64.wrap ((n:Nat):Int)=((n%18446744073709551616:Nat):Int):=by rw [IntKind.wrap_u64];omega
theorem and32 (x:Nat) (hx:x<18446744073709551616):IntKind.u64.wrap ((BitVec.ofInt IntKind.u64.bits (x:Int) &&& BitVec.ofInt IntKind.u64.bits 4294967295).toNat:Nat)=((x%4294967296:Nat):Int):=by
 have e:(BitVec.ofInt IntKind.u64.bits (x:Int) &&& BitVec.ofInt IntKind.u64.bits 4294967295).toNat=x%4294967296:=by
  show (BitVec.ofInt 64 (x:Int) &&& BitVec.ofInt 64 4294967295).toNat=_
  rw [BitVec.toNat_and]
  have e1:(BitVec.ofInt 64 (x:Int)).toNat=x:=by simp;omega
  have e2:(BitVec.ofInt 64 (4294967295:Int)).toNat=4294967295:=by decide
  rw [e1,e2,mask32]
 rw [e,wr64,Nat.mod_eq_of_lt (by have:=Nat.mod_lt x (by decide:0<4294967296);omega)]
theorem or64 (a b:Nat) (ha:a<18446744073709551616) (hb:b<18446744073709551616):IntKind.u64.wrap ((BitVec.ofInt IntKind.u64.bits (a:Int) ||| BitVec.ofInt IntKind.u64.bits (b:Int)).toNat:Nat)=(((a ||| b):Nat):Int):=by
 have e:(BitVec.ofInt IntKind.u64.bits (a:Int) ||| BitVec.ofInt IntKind.u64.bits (b:Int)).toNat=a ||| b:=by
  show (BitVec.ofInt 64 (a:Int) ||| BitVec.ofInt 64 (b:Int)).toNat=_
  rw [BitVec.toNat_or]
  have e1:(BitVec.ofInt 64 (a:Int)).toNat=a:=by simp;omega
  have e2:(BitVec.ofInt 64 (b:Int)).toNat=b:=by simp;omega
  rw [e1,e2]
 have hlt:a ||| b<2^64:=Nat.or_lt_two_pow (by omega) (by omega)
 rw [e,wr64,Nat.mod_eq_of_lt (by omega)]
theorem shl64 (a s:Nat) (hs:s≤64):IntKind.u64.wrap ((a:Int)*2^(min s IntKind.u64.bits))=((a * 2^s%18446744073709551616:Nat):Int):=by
 have e:min s IntKind.u64.bits=s:=by show min s 64=s;omega
 rw [e,← wr64]
 congr 1
theorem shr64 (a s:Nat) (hs:s≤64):Int.fdiv (a:Int) (2^(min s IntKind.u64.bits))=((a/2^s:Nat):Int):=by
 have e:min s IntKind.u64.bits=s:=by show min s 64=s;omega
 rw [e]
 have:(2:Int)^s=((2^s:Nat):Int):=by simp
 rw [this]
 exact (Int.ofNat_fdiv a (2^s)).symm
theorem rem_wrap (u d q Y:Nat) (hY:0<Y) (hYl:Y<18446744073709551616) (hq:q=(u * 4294967296+d)/Y) :
  IntKind.u64.wrap (IntKind.u64.wrap (IntKind.u64.wrap ((u:Int)*4294967296)+(d:Int))-IntKind.u64.wrap ((q:Int)*(Y:Int)))=(((u * 4294967296+d)%Y:Nat):Int):=by
 have h1:=Nat.div_add_mod (u * 4294967296+d) Y
 have h2:=Nat.mod_lt (u * 4294967296+d) hY
 rw [← hq] at h1
 have e1:(u:Int)*4294967296=((u * 4294967296:Nat):Int):=by simp
 have e2:(q:Int)*(Y:Int)=((Y * q:Nat):Int):=by rw [Nat.mul_comm];simp
 rw [e1,e2]
 simp only [IntKind.wrap_u64]
 generalize (u * 4294967296+d)%Y=r at *
 generalize u * 4294967296=A at *
 generalize Y * q=C at *
 omega
theorem rest_wrap (u n1:Nat) (hu:u<18446744073709551616):IntKind.u64.wrap ((u:Int)-IntKind.u64.wrap (((u/n1:Nat):Int)*(n1:Int)))=((u%n1:Nat):Int):=by
 have h1:=Nat.div_add_mod u n1
 have e2:((u/n1:Nat):Int)*(n1:Int)=((n1*(u/n1):Nat):Int):=by rw [Nat.mul_comm];simp
 rw [e2]
 simp only [IntKind.wrap_u64]
 generalize u%n1=r at *
 generalize n1*(u/n1)=C at *
 omega
theorem down_wrap (q:Nat) (h:1≤q) (hq:q<18446744073709551616):IntKind.u64.wrap ((q:Int)-1)=((q-1:Nat):Int):=by rw [IntKind.wrap_u64];omega
theorem plus_wrap (a b:Nat) (h:a+b<18446744073709551616):IntKind.u64.wrap ((a:Int)+(b:Int))=((a+b:Nat):Int):=by rw [IntKind.wrap_u64];omega
theorem times_wrap (a b:Nat) (h:a * b<18446744073709551616):IntKind.u64.wrap ((a:Int)*(b:Int))=((a * b:Nat):Int):=by
 have e:(a:Int)*(b:Int)=((a * b:Nat):Int):=by simp
 rw [e];exact wrap_u64' _ h
theorem times_wrapR (b:Nat) (h:4294967296*b<18446744073709551616):IntKind.u64.wrap (4294967296*(b:Int))=((4294967296*b:Nat):Int):=times_wrap 4294967296 b h
theorem times_wrapL (b:Nat) (h:b * 4294967296<18446744073709551616):IntKind.u64.wrap ((b:Int)*4294967296)=((b * 4294967296:Nat):Int):=times_wrap b 4294967296 h
theorem digit_round {q r u d Y n1 n0:Nat} (hY:Y=n1*4294967296+n0) (hn0:n0<4294967296) (hn1:n1<4294967296) (hu:u=q * n1+r) (huY:u<Y) (hd:d<4294967296) (hQ:(u * 4294967296+d)/Y≤q) (hq:q≤4294967297) (hr:r<4294967296) :
  ((¬4294967296≤q∧¬4294967296*r+d<q * n0)∧(u * 4294967296+d)/Y=q) ∨
  ((4294967296≤q∨4294967296*r+d<q * n0)∧1≤q∧u=(q-1)*n1+(r+n1)∧(u * 4294967296+d)/Y≤q-1∧(4294967296≤r+n1→(u * 4294967296+d)/Y=q-1)):=by
 by_cases h:4294967296≤q∨4294967296*r+d<q * n0
 ·right
  have h1:=digit_down hY hu huY hd h
  have h2:1≤q:=Nat.lt_of_le_of_lt (Nat.zero_le _) h1
  have h3:u=(q-1)*n1+(r+n1):=by
   obtain ⟨p,rfl⟩:∃p,q=p+1:=⟨q-1,by omega⟩
   rw [hu,Nat.add_mul]
   have:p+1-1=p:=by omega
   rw [this];omega
  exact ⟨h,h2,h3,Nat.le_sub_one_of_lt h1,fun hr'=>digit_out hY hn0 h3 huY (Nat.le_sub_one_of_lt h1) (by omega) hr'⟩
 ·left
  have h':¬4294967296≤q∧¬4294967296*r+d<q * n0:=⟨fun x=>h (.inl x),fun x=>h (.inr x)⟩
  exact ⟨h',digit_at hY hu huY hQ (by omega)⟩
theorem div64G_c (hi lo y:Nat) (w:World) (K:Value→World→Prop) (hh:hi<y) (hlo:lo<18446744073709551616) (hy:y<18446744073709551616)
  (h:∀w',Mod (fun _=>False) w w'→K (.tuple #[.int .u64 (((hi * 18446744073709551616+lo)/y:Nat):Int),.int .u64 (((hi * 18446744073709551616+lo)%y:Nat):Int)]) w') :
  Ok prog 50 #[.int .u64 hi,.int .u64 lo,.int .u64 y] w K:=by
 by_cases h00:hi=0
 ·subst h00
  rw [Nat.zero_mul,Nat.zero_add] at h
  exact div64_c lo y w K hlo hy (by omega) h
 refine F50.enter (args:=[.int .u64 hi,.int .u64 lo,.int .u64 y]) (by simp) ?_
 unfold c50 r50
 have b0:((y:Int) == 0)=false:=by simp;omega
 have b1:¬(y:Int)≤hi:=by omega
 have b2:((hi:Int) == 0)=false:=by simp;omega
 simp only [ZB,insVc,iopK,iopV,ne_eq,Nat.reduceEqDiff,reduceCtorEq,Zac,Zae,Zab,Za,Zag,b0,b1,b2]
 refine ok_of_calls (by kernel_rfl) (Go.Proofs.Tryz.bits_LeadingZeros64 (y:Int) w (by omega) (by omega)) ?_
 rintro e w' ⟨rfl,rfl⟩
 refine ⟨_,rfl, ?_⟩
 obtain ⟨n1,n2,n3,n4⟩:=norm y (by omega) hy
 have hz:(64-((Lib.bitLen (y:Int).toNat:Nat):Int))=((lzN y:Nat):Int):=by
  unfold lzN;rw [Int.toNat_natCast];omega
 obtain ⟨s,hs⟩:∃s,s=lzN y:=⟨_,rfl⟩
 have hs64:s≤63:=by rw [hs];unfold lzN;omega
 rw [hz,← hs]
 rw [← hs] at n3 n4
 clear hz hs n1 n2
 have hq:=quo_moved hi lo y s (by omega) (by omega)
 have hml:=moved_lt (s:=s) (by omega) hh hlo
 have hmo:=moved_or (hi:=hi) (s:=s) (by omega) hlo
 have ws:IntKind.u64.wrap ((s:Nat):Int)=(s:Nat):=wrap_u64' s (by omega)
 have s0:¬((s:Nat):Int)<0:=by omega
 have e1:=shl64 y s (by omega)
 rw [Nat.mod_eq_of_lt n4] at e1
 have hhi:hi * 2^s<18446744073709551616:=by
  have:hi * 2^s≤y * 2^s:=Nat.mul_le_mul_right _ (by omega)
  omega
 have e2:=shl64 hi s (by omega)
 rw [Nat.mod_eq_of_lt hhi] at e2
 have e3:IntKind.u64.wrap ((64:Int)-(s:Nat))=((64-s:Nat):Int):=by rw [show (64:Int)-(s:Nat)=((64-s:Nat):Int) by omega];exact wrap_u64' _ (by omega)
 have s1:¬((64-s:Nat):Int)<0:=by omega
 have e4:=shr64 lo (64-s) (by omega)
 have hll:lo/2^(64-s)<18446744073709551616:=Nat.lt_of_le_of_lt (Nat.div_le_self _ _) hlo
 have e5:=or64 _ _ hhi hll
 rw [hmo] at e5
 have e6:=shl64 lo s (by omega)
 have m32:∀k:Nat,Int.fdiv (k:Int) (2^(min 32 IntKind.u64.bits))=((k/4294967296:Nat):Int):=fun k=>shr64 k 32 (by omega)
 have a1:=and32 (y * 2^s) n4
 have hV:lo * 2^s%18446744073709551616<18446744073709551616:=Nat.mod_lt _ (by decide)
 have a2:=and32 _ hV
 obtain ⟨Y,hY⟩:∃Y,Y=y * 2^s:=⟨_,rfl⟩
 obtain ⟨U,hU⟩:∃U,U=hi * 2^s+lo/2^(64-s):=⟨_,rfl⟩
 obtain ⟨V,hVe⟩:∃V,V=lo * 2^s%18446744073709551616:=⟨_,rfl⟩
 have hpow:0<2^s:=Nat.two_pow_pos s
 have wshr:∀k:Nat,Int.fdiv (k:Int) (2^(min s IntKind.u64.bits))=((k/2^s:Nat):Int):=fun k=>shr64 k s (by omega)
 simp only [← hY,← hU,← hVe] at *
 obtain ⟨n1,hn1⟩:∃n1,n1=Y/4294967296:=⟨_,rfl⟩
 obtain ⟨n0,hn0⟩:∃n0,n0=Y%4294967296:=⟨_,rfl⟩
 obtain ⟨D1,hD1⟩:∃D1,D1=V/4294967296:=⟨_,rfl⟩
 obtain ⟨D0,hD0⟩:∃D0,D0=V%4294967296:=⟨_,rfl⟩
 have n1p:0<n1:=by omega
 have n1h:2147483648≤n1:=by omega
 have n1l:n1<4294967296:=by omega
 have n0l:n0<4294967296:=by omega
 have d1l:D1<4294967296:=by omega
 have d0l:D0<4294967296:=by omega
 have hYn:Y=n1*4294967296+n0:=by omega
 have hU64:U<18446744073709551616:=by omega
 have e0:(n1:Int)≠0:=by omega
 have qdiv:∀x:Nat,x<18446744073709551616→IntKind.u64.wrap (Int.tdiv (x:Int) (n1:Int))=((x/n1:Nat):Int):=fun x hx=>by
  rw [show Int.tdiv (x:Int) (n1:Int)=((x/n1:Nat):Int) from rfl]
  exact wrap_u64' _ (by have:=Nat.div_le_self x n1;omega)
 have eq1:=qdiv U hU64
 have er1:=rest_wrap U n1 hU64
 simp only [ZB,insVc,iopK,iopV,convK,ne_eq,Nat.reduceEqDiff,reduceCtorEq,Zac,Za,Zag,or_true,Zaf,Int.reduceLT,Int.reduceToNat,Zbj,ws,s0,e1,e2,e3,s1,e4,e5,e6,m32,a1,a2,← hn1,← hn0,← hD1,← hD0,e0,eq1,er1]
 obtain ⟨Q1,hQ1⟩:∃Q1,Q1=(U * 4294967296+D1)/Y:=⟨_,rfl⟩
 obtain ⟨R1,hR1⟩:∃R1,R1=(U * 4294967296+D1)%Y:=⟨_,rfl⟩
 have hYp:0<Y:=by omega
 have hR1l:R1<Y:=by rw [hR1];exact Nat.mod_lt _ hYp
 have hQ1l:Q1<4294967296:=by rw [hQ1];exact digit_lt hml d1l
 obtain ⟨Q0,hQ0⟩:∃Q0,Q0=(R1*4294967296+D0)/Y:=⟨_,rfl⟩
 have hQ0l:Q0<4294967296:=by rw [hQ0];exact digit_lt hR1l d0l
 have rw1:=rem_wrap U D1 Q1 Y hYp n4 hQ1
 rw [← hR1] at rw1
 have rw2:=rem_wrap R1 D0 Q0 Y hYp n4 hQ0
 refine vc_cut rfl (fun e ρ ds u=>e = .exit 0∧ds=[]∧u=w'∧ρ 2 = .int .u64 (Y:Int)∧ρ 8 = .int .u64 (s:Int)∧ρ 9 = .int .u64 (n1:Int)∧ρ 10 = .int .u64 (n0:Int)∧ρ 11 = .int .u64 (U:Int)∧ρ 13 = .int .u64 (D1:Int)∧ρ 14 = .int .u64 (D0:Int)∧ρ 15 = .int .u64 (((U * 4294967296+D1)/Y:Nat):Int)) ?_ ?_
 ·refine vc_loop (fun m ρ ds u=>ds=[]∧u=w'∧ρ 2 = .int .u64 (Y:Int)∧ρ 8 = .int .u64 (s:Int)∧ρ 9 = .int .u64 (n1:Int)∧ρ 10 = .int .u64 (n0:Int)∧ρ 11 = .int .u64 (U:Int)∧ρ 13 = .int .u64 (D1:Int)∧ρ 14 = .int .u64 (D0:Int)∧∃q r:Nat,m=q∧ρ 15 = .int .u64 (q:Int)∧ρ 16 = .int .u64 (r:Int)∧U=q * n1+r∧(U * 4294967296+D1)/Y≤q∧q≤4294967297∧r<4294967296) (U/n1) ?_ ?_
  ·refine ⟨rfl,rfl,by simp only [upd_same,upd_other,ne_eq,not_false_eq_true,Nat.reduceEqDiff],by simp only [upd_same,upd_other,ne_eq,not_false_eq_true,Nat.reduceEqDiff],by simp only [upd_same,upd_other,ne_eq,not_false_eq_true,Nat.reduceEqDiff],by simp only [upd_same,upd_other,ne_eq,not_false_eq_true,Nat.reduceEqDiff],by simp only [upd_same,upd_other,ne_eq,not_false_eq_true,Nat.reduceEqDiff],by simp only [upd_same,upd_other,ne_eq,not_false_eq_true,Nat.reduceEqDiff],by simp only [upd_same,upd_other,ne_eq,not_false_eq_true,Nat.reduceEqDiff],U/n1,U%n1,rfl,by simp only [upd_same,upd_other,ne_eq,not_false_eq_true,Nat.reduceEqDiff],by simp only [upd_same], ?_, ?_, ?_, ?_⟩
   ·rw [Nat.mul_comm];exact (Nat.div_add_mod _ _).symm
   ·exact digit_start hYn n1p (by omega) (by omega)
   ·exact digit_first hYn n0l n1h (by omega)
   ·have:=Nat.mod_lt U n1p;omega
  ·rintro m ρ ds u ⟨rfl,rfl,q2,q8,q9,q10,q11,q13,q14,q,r,rfl,qq,qr,hu,hQ,hq,hr⟩
   have w1:IntKind.u64.wrap (4294967296*(r:Int))=((4294967296*r:Nat):Int):=times_wrapR r (by omega)
   have w2:=plus_wrap (4294967296*r) D1 (by omega)
   have hout:∀ρ':Env,True:=fun _=>trivial
   rcases digit_round hYn n0l n1l hu (by omega) (by omega) hQ hq hr with ⟨⟨c1,c2⟩,hf⟩|⟨c,hq1,hu',hQ',hf⟩
   ·have g1:¬(m:Int) ≥ 4294967296:=by omega
    have hmn:m * n0<18446744073709551616:=by omega
    have w3:=times_wrap m n0 hmn
    have g2:¬((m * n0:Nat):Int) > ((4294967296*r+D1:Nat):Int):=by omega
    simp only [ZB,insVc,pickK,iopK,iopV,ne_eq,Nat.reduceEqDiff,reduceCtorEq,Zaf,q2,q8,q9,q10,q11,q13,q14,qq,qr,g1,w1,w2,w3,g2]
    rw [hf]
   ·have hgo:∀(G:Prop),(G→G):=fun _ x=>x
    have wq:=down_wrap m hq1 (by omega)
    have wr:=plus_wrap r n1 (by omega)
    by_cases hb:4294967296≤r+n1
    ·have g3:((r+n1:Nat):Int) ≥ 4294967296:=by omega
     have hf':=hf hb
     by_cases g1:(m:Int) ≥ 4294967296
     ·simp only [ZB,blockQ_exit,insVc,pickK,iopK,iopV,ne_eq,Nat.reduceEqDiff,reduceCtorEq,Zaa,q2,q8,q9,q10,q11,q13,q14,qq,qr,g1,wq,wr,g3]
      rw [hf']
     ·have c2:4294967296*r+D1<m * n0:=c.resolve_left (by omega)
      have hmn:m * n0<18446744073709551616:=by
       have:m * n0≤4294967295*4294967295:=Nat.mul_le_mul (by omega) (by omega)
       omega
      have w3:=times_wrap m n0 hmn
      have g2:((m * n0:Nat):Int) > ((4294967296*r+D1:Nat):Int):=by omega
      simp only [ZB,blockQ_exit,insVc,pickK,iopK,iopV,ne_eq,Nat.reduceEqDiff,reduceCtorEq,Zaf,q2,q8,q9,q10,q11,q13,q14,qq,qr,g1,w1,w2,w3,g2,wq,wr,g3]
      rw [hf']
    ·have g3:¬((r+n1:Nat):Int) ≥ 4294967296:=by omega
     by_cases g1:(m:Int) ≥ 4294967296
     ·simp only [ZB,insVc,pickK,iopK,iopV,ne_eq,Nat.reduceEqDiff,reduceCtorEq,Zaa,q2,q8,q9,q10,q11,q13,q14,qq,qr,g1,wq,wr,g3]
      exact ⟨m-1,by omega,m-1,r+n1,rfl,rfl,rfl,hu',hQ',by omega,by omega⟩
     ·have c2:4294967296*r+D1<m * n0:=c.resolve_left (by omega)
      have hmn:m * n0<18446744073709551616:=by
       have:m * n0≤4294967295*4294967295:=Nat.mul_le_mul (by omega) (by omega)
       omega
      have w3:=times_wrap m n0 hmn
      have g2:((m * n0:Nat):Int) > ((4294967296*r+D1:Nat):Int):=by omega
      simp only [ZB,insVc,pickK,iopK,iopV,ne_eq,Nat.reduceEqDiff,reduceCtorEq,Zaf,q2,q8,q9,q10,q11,q13,q14,qq,qr,g1,w1,w2,w3,g2,wq,wr,g3]
      exact ⟨m-1,by omega,m-1,r+n1,rfl,rfl,rfl,hu',hQ',by omega,by omega⟩
 rintro e ρ ds u0 ⟨rfl,rfl,rfl,q2,q8,q9,q10,q11,q13,q14,q15⟩
 rw [← hQ1] at q15
 have eq2:=qdiv R1 (by omega)
 have er2:=rest_wrap R1 n1 (by omega)
 simp only [ZB,insVc,iopK,iopV,ne_eq,Nat.reduceEqDiff,reduceCtorEq,Zaf,q2,q9,q11,q13,q15,rw1,e0,eq2,er2]
 refine vc_cut rfl (fun e ρ ds u=>e = .exit 2∧ds=[]∧u=u0∧ρ 2 = .int .u64 (Y:Int)∧ρ 8 = .int .u64 (s:Int)∧ρ 9 = .int .u64 (n1:Int)∧ρ 10 = .int .u64 (n0:Int)∧ρ 14 = .int .u64 (D0:Int)∧ρ 15 = .int .u64 ((Q1:Nat):Int)∧ρ 17 = .int .u64 (R1:Int)∧ρ 18 = .int .u64 (((R1*4294967296+D0)/Y:Nat):Int)) ?_ ?_
 ·refine vc_loop (fun m ρ ds u=>ds=[]∧u=u0∧ρ 2 = .int .u64 (Y:Int)∧ρ 8 = .int .u64 (s:Int)∧ρ 9 = .int .u64 (n1:Int)∧ρ 10 = .int .u64 (n0:Int)∧ρ 14 = .int .u64 (D0:Int)∧ρ 15 = .int .u64 ((Q1:Nat):Int)∧ρ 17 = .int .u64 (R1:Int)∧∃q r:Nat,m=q∧ρ 18 = .int .u64 (q:Int)∧ρ 16 = .int .u64 (r:Int)∧R1=q * n1+r∧(R1*4294967296+D0)/Y≤q∧q≤4294967297∧r<4294967296) (R1/n1) ?_ ?_
  ·refine ⟨rfl,rfl,by simp only [upd_other,ne_eq,not_false_eq_true,Nat.reduceEqDiff,q2],by simp only [upd_other,ne_eq,not_false_eq_true,Nat.reduceEqDiff,q8],by simp only [upd_other,ne_eq,not_false_eq_true,Nat.reduceEqDiff,q9],by simp only [upd_other,ne_eq,not_false_eq_true,Nat.reduceEqDiff,q10],by simp only [upd_other,ne_eq,not_false_eq_true,Nat.reduceEqDiff,q14],by simp only [upd_other,ne_eq,not_false_eq_true,Nat.reduceEqDiff,q15],by simp only [upd_same,upd_other,ne_eq,not_false_eq_true,Nat.reduceEqDiff],R1/n1,R1%n1,rfl,by simp only [upd_same,upd_other,ne_eq,not_false_eq_true,Nat.reduceEqDiff],by simp only [upd_same], ?_, ?_, ?_, ?_⟩
   ·rw [Nat.mul_comm];exact (Nat.div_add_mod _ _).symm
   ·exact digit_start hYn n1p (by omega) (by omega)
   ·exact digit_first hYn n0l n1h (by omega)
   ·have:=Nat.mod_lt R1 n1p;omega
  ·rintro m ρ ds u ⟨rfl,rfl,q2,q8,q9,q10,q14,q15,q17,q,r,rfl,qq,qr,hu,hQ,hq,hr⟩
   have w1:IntKind.u64.wrap (4294967296*(r:Int))=((4294967296*r:Nat):Int):=times_wrapR r (by omega)
   have w2:=plus_wrap (4294967296*r) D0 (by omega)
   have hout:∀ρ':Env,True:=fun _=>trivial
   rcases digit_round hYn n0l n1l hu (by omega) (by omega) hQ hq hr with ⟨⟨c1,c2⟩,hf⟩|⟨c,hq1,hu',hQ',hf⟩
   ·have g1:¬(m:Int) ≥ 4294967296:=by omega
    have hmn:m * n0<18446744073709551616:=by omega
    have w3:=times_wrap m n0 hmn
    have g2:¬((m * n0:Nat):Int) > ((4294967296*r+D0:Nat):Int):=by omega
    simp only [ZB,insVc,pickK,iopK,iopV,ne_eq,Nat.reduceEqDiff,reduceCtorEq,Zaf,q2,q8,q9,q10,q14,q15,q17,qq,qr,g1,w1,w2,w3,g2]
    rw [hf]
   ·have hgo:∀(G:Prop),(G→G):=fun _ x=>x
    have wq:=down_wrap m hq1 (by omega)
    have wr:=plus_wrap r n1 (by omega)
    by_cases hb:4294967296≤r+n1
    ·have g3:((r+n1:Nat):Int) ≥ 4294967296:=by omega
     have hf':=hf hb
     by_cases g1:(m:Int) ≥ 4294967296
     ·simp only [ZB,blockQ_exit,insVc,pickK,iopK,iopV,ne_eq,Nat.reduceEqDiff,reduceCtorEq,Zaa,q2,q8,q9,q10,q14,q15,q17,qq,qr,g1,wq,wr,g3]
      rw [hf']
     ·have c2:4294967296*r+D0<m * n0:=c.resolve_left (by omega)
      have hmn:m * n0<18446744073709551616:=by
       have:m * n0≤4294967295*4294967295:=Nat.mul_le_mul (by omega) (by omega)
       omega
      have w3:=times_wrap m n0 hmn
      have g2:((m * n0:Nat):Int) > ((4294967296*r+D0:Nat):Int):=by omega
      simp only [ZB,blockQ_exit,insVc,pickK,iopK,iopV,ne_eq,Nat.reduceEqDiff,reduceCtorEq,Zaf,q2,q8,q9,q10,q14,q15,q17,qq,qr,g1,w1,w2,w3,g2,wq,wr,g3]
      rw [hf']
    ·have g3:¬((r+n1:Nat):Int) ≥ 4294967296:=by omega
     by_cases g1:(m:Int) ≥ 4294967296
     ·simp only [ZB,insVc,pickK,iopK,iopV,ne_eq,Nat.reduceEqDiff,reduceCtorEq,Zaa,q2,q8,q9,q10,q14,q15,q17,qq,qr,g1,wq,wr,g3]
      exact ⟨m-1,by omega,m-1,r+n1,rfl,rfl,rfl,hu',hQ',by omega,by omega⟩
     ·have c2:4294967296*r+D0<m * n0:=c.resolve_left (by omega)
      have hmn:m * n0<18446744073709551616:=by
       have:m * n0≤4294967295*4294967295:=Nat.mul_le_mul (by omega) (by omega)
       omega
      have w3:=times_wrap m n0 hmn
      have g2:((m * n0:Nat):Int) > ((4294967296*r+D0:Nat):Int):=by omega
      simp only [ZB,insVc,pickK,iopK,iopV,ne_eq,Nat.reduceEqDiff,reduceCtorEq,Zaf,q2,q8,q9,q10,q14,q15,q17,qq,qr,g1,w1,w2,w3,g2,wq,wr,g3]
      exact ⟨m-1,by omega,m-1,r+n1,rfl,rfl,rfl,hu',hQ',by omega,by omega⟩
 rintro e ρ ds u ⟨rfl,rfl,rfl,q2,q8,q9,q10,q14,q15,q17,q18⟩
 rw [← hQ0] at q18
 have wf1:=times_wrapL Q1 (by omega)
 have wf2:=plus_wrap (Q1*4294967296) Q0 (by omega)
 simp only [ZB,endK,resK,packed,insVc,iopK,iopV,ne_eq,Nat.reduceEqDiff,reduceCtorEq,Zad,Zaw,or_true,Zaf,Zbj,q2,q8,q14,q15,q17,q18,wf1,wf2,rw2,s0,wshr]
 rw [← hD1,← hD0,← hQ1,← hR1,← hQ0] at hq
 rw [hq.1,hq.2,Nat.mul_div_cancel _ hpow]
 exact h u (Mod.refl _ _)
theorem needG_c (c s o:Nat) (w:World) (K:Value→World→Prop) (hc:c<18446744073709551616) (hs:s<18446744073709551616) (ho:o<18446744073709551616) (h0:0<o)
  (h:∀w',Mod (fun _=>False) w w'→K (.int .u64 (needN c s o:Nat)) w'):Ok prog 36 #[.int .u64 c,.int .u64 s,.int .u64 o] w K:=by
 refine F36.enter (args:=[.int .u64 c,.int .u64 s,.int .u64 o]) (by simp) ?_
 unfold c36 r36
 by_cases hso:o≤s
 ·have k1:(s:Int) ≥ o:=by omega
  simp only [ZB,endK,resK,packed,insVc,iopK,iopV,ne_eq,Nat.reduceEqDiff,reduceCtorEq,Zac,Za,Zag,Zad,k1]
  have:=h w (Mod.refl _ _)
  unfold needN at this
  rw [if_pos hso] at this
  exact this
 ·have k1:¬(s:Int) ≥ o:=by omega
  simp only [ZB,insVc,iopK,iopV,ne_eq,Nat.reduceEqDiff,reduceCtorEq,Zac,Zae,Zab,Za,Zag,k1]
  refine ok_of_calls (by kernel_rfl) (Go.Proofs.Tryz.bits_Mul64 c s hc hs w) ?_
  rintro e w' ⟨rfl,rfl⟩
  refine ⟨_,rfl, ?_⟩
  have hhi:c * s/18446744073709551616<o:=by
   rw [Nat.div_lt_iff_lt_mul (by decide)]
   have h1:c * s≤18446744073709551615*s:=Nat.mul_le_mul_right _ (by omega)
   have h2:18446744073709551615*s≤18446744073709551615*o:=Nat.mul_le_mul_left _ (by omega)
   omega
  have hdm:c * s/18446744073709551616*18446744073709551616+c * s%18446744073709551616=c * s:=by rw [Nat.mul_comm];exact Nat.div_add_mod _ _
  simp only [ZB,insVc,extK,ne_eq,Nat.reduceEqDiff,Zac,Zae,Zab,Za,Zag,Zah]
  refine div64G_c _ _ o w' _ hhi (Nat.mod_lt _ (by decide)) ho ?_
  intro w1 hm1
  rw [hdm]
  have hn:needN c s o=c * s/o+(if 0<c * s%o then 1 else 0):=by unfold needN;rw [if_neg hso]
  have hle:=need_le c s o h0
  have h':=h w1 hm1
  rw [hn] at h'
  rw [hn] at hle
  by_cases hr:0<c * s%o
  ·have k2:((c * s%o:Nat):Int) > 0:=Int.natCast_pos.2 hr
   simp only [ZB,endK,resK,packed,insVc,iopK,iopV,extK,ne_eq,Nat.reduceEqDiff,reduceCtorEq,Za,Zag,Zah,Zad,k2]
   rw [if_pos hr] at h' hle
   rw [show ((c * s/o:Nat):Int)+1=((c * s/o+1:Nat):Int) from rfl,wrap_u64' (c * s/o+1) (Nat.lt_of_le_of_lt hle hc)]
   exact h'
  ·have k2:¬((c * s%o:Nat):Int) > 0:=fun x=>hr (Int.natCast_pos.1 x)
   simp only [ZB,endK,resK,packed,insVc,iopK,iopV,extK,ne_eq,Nat.reduceEqDiff,reduceCtorEq,Za,Zag,Zah,Zad,k2]
   rw [if_neg hr] at h'
   exact h'
theorem atG_c (r:Rw) (share o:Nat) (w:World) (K:Value→World→Prop) (hr:r.good) (hs:share<18446744073709551616) (ho:o<18446744073709551616)
  (h:∀w',Mod (fun _=>False) w w'→K (.int .i64 (r.at share o:Nat)) w'):Ok prog 21 #[r.val,.int .u64 share,.int .u64 o] w K:=by
 refine F21.enter (args:=[r.val,.int .u64 share,.int .u64 o]) (by simp) ?_
 unfold c21 r21
 have z0:((0:Int) == 0)=true:=rfl
 have kc:((r.c:Int) == 0)=decide (r.c=0):=by by_cases hq:r.c=0 <;> simp [hq]
 have ko:((o:Int) == 0)=decide (o=0):=by by_cases hq:o=0 <;> simp [hq]
 have ks:((share:Int) == 0)=decide (share=0):=by by_cases hq:share=0 <;> simp [hq]
 have h0:r.c=0∨o=0∨share=0→K (.int .i64 0) (w.alloc (.cells r.cells.toArray 42)):=by
  intro hz
  have e0:r.at share o=0:=by unfold Rw.at;rw [if_pos hz]
  rw [e0] at h
  exact h _ ((Mod.refl _ w).alloc _)
 by_cases c1:r.c=0
 ·have k1:((r.c:Int) == 0)=true:=by rw [kc,decide_eq_true c1]
  have h':=h0 (.inl c1)
  simp only [Rw.cells] at h'
  simp only [ZB,endK,resK,packed,insVc,pickK,load1K,iopK,iopV,faddrK,Value.cells,ne_eq,Nat.reduceEqDiff,reduceCtorEq,Zac,Za,Zah,Zad,Zaa,get_alloc,Nat.reduceEqDiff,Rw.val,Rw.cells,k1]
  exact h'
 have k1:((r.c:Int) == 0)=false:=by rw [kc,decide_eq_false c1]
 by_cases c2:o=0
 ·have k2:((o:Int) == 0)=true:=by rw [ko,decide_eq_true c2]
  have h':=h0 (.inr (.inl c2))
  simp only [Rw.cells] at h'
  simp only [ZB,endK,resK,packed,insVc,pickK,load1K,iopK,iopV,faddrK,Value.cells,ne_eq,Nat.reduceEqDiff,reduceCtorEq,Zac,Za,Zag,Zah,Zad,Zaa,Zaf,get_alloc,Nat.reduceEqDiff,Rw.val,Rw.cells,k1,k2]
  exact h'
 have k2:((o:Int) == 0)=false:=by rw [ko,decide_eq_false c2]
 by_cases c3:share=0
 ·have k3:((share:Int) == 0)=true:=by rw [ks,decide_eq_true c3]
  have h':=h0 (.inr (.inr c3))
  simp only [Rw.cells] at h'
  simp only [ZB,endK,resK,packed,insVc,pickK,load1K,iopK,iopV,faddrK,Value.cells,ne_eq,Nat.reduceEqDiff,reduceCtorEq,Zac,Za,Zag,Zah,Zad,Zaa,Zaf,get_alloc,Nat.reduceEqDiff,Rw.val,Rw.cells,k1,k2,k3]
  exact h'
 have k3:((share:Int) == 0)=false:=by rw [ks,decide_eq_false c3]
 simp only [ZB,insVc,pickK,load1K,iopK,iopV,faddrK,Value.cells,ne_eq,Nat.reduceEqDiff,reduceCtorEq,Zac,Zae,Zab,Za,Zag,Zah,Zaa,Zaf,get_alloc,Nat.reduceEqDiff,Rw.val,Rw.cells,k1,k2,k3]
 refine callK_gen ?_
 intro w1 hw1
 have hm1:Mod (fun _=>False) w w1:=by rw [hw1];exact (Mod.refl _ _).alloc _
 have b1:w1.heap[w.heap.size]? = some (.cells r.cells.toArray 42 (0,0)):=by rw [hw1];exact get_alloc_new _ _
 clear hw1
 refine needG_c r.c share o w1 _ hr.c hs ho (by omega) ?_
 intro w2 hm2
 have b2:=hm2.keep b1 id
 have hcl:numV r.cl=r.cells.drop 4:=rfl
 have hsz:r.cells.toArray.size=69:=by rw [List.size_toArray];exact cells_len r hr
 have hex:r.cells.toArray.extract 4 69=(numV r.cl).toArray:=by
  rw [hcl]
  apply Array.ext'
  rw [Array.toList_extract]
  simp only [Zap]
  rw [List.take_of_length_le]
  rw [List.length_drop,cells_len r hr]
  omega
 simp only [ZB,insVc,loadNK,faddrK,ne_eq,Nat.reduceEqDiff,Nat.reduceAdd,Nat.reduceLeDiff,Nat.reduceAdd,Nat.reduceEqDiff,b2,hsz,hex]
 have hat:r.at share o=atF (needN r.c share o) r.cl 0 0:=by unfold Rw.at;rw [if_neg (by omega)]
 refine vc_loop (fun m ρ ds w'=>ds=[]∧ρ 7 = .int .u64 (needN r.c share o:Nat)∧ρ 28 = .agg (numV r.cl).toArray∧Mod (fun _=>False) w w' ∧
  ∃i seen:Nat,i+m=65∧ρ 29 = .int .i64 i∧ρ 8 = .int .u64 seen∧seen<18446744073709551616∧atF (needN r.c share o) (r.cl.drop i) seen i=r.at share o) 65 ?_ ?_
 ·exact ⟨rfl,by simp only [upd_same,upd_other,ne_eq,not_false_eq_true,Nat.reduceEqDiff],by simp only [upd_same,upd_other,ne_eq,not_false_eq_true,Nat.reduceEqDiff],hm1.trans hm2,0,0,rfl,by simp only [upd_same];rfl,by simp only [upd_same,upd_other,ne_eq,not_false_eq_true,Nat.reduceEqDiff];rfl,by decide,hat.symm⟩
 ·rintro m ρ ds w' ⟨rfl,h7,h28,hm,i,seen,him,h29,h8,hsn,hF⟩
  simp only [ZB,insVc,iopK,iopV,reduceCtorEq,h29]
  by_cases hi:(i:Int)<65
  ·obtain ⟨x,hx⟩:∃x,r.cl[i]? = some x:=⟨_,List.getElem?_eq_getElem (by rw [hr.len];omega)⟩
   have hxl:=hr.cl x (List.mem_of_getElem? hx)
   have hd:r.cl.drop i=x :: r.cl.drop (i+1):=by
    obtain ⟨hlt,he⟩:=List.getElem?_eq_some_iff.1 hx
    rw [List.drop_eq_getElem_cons hlt,he]
   rw [hd] at hF
   simp only [ZB,insVc,ne_eq,Nat.reduceEqDiff,hi,h29]
   refine rawK_index (v:=.int .u64 (x:Int)) (w':=w') rfl rfl rfl ?_ ?_
   ·simp only [upd_other,ev_tmp,ne_eq,not_false_eq_true,Nat.reduceEqDiff,h28,h29]
    exact run_index_cls _ i (by omega) _ (by rw [List.getElem?_toArray,numV_at,hx];rfl) w'
   rw [atF] at hF
   simp only [ZB,insVc,iopK,iopV,ne_eq,Nat.reduceEqDiff,reduceCtorEq,h7,h8]
   have hsum:IntKind.u64.wrap ((seen:Int)+(x:Int))=(((seen+x)%18446744073709551616:Nat):Int):=by rw [IntKind.wrap_u64];omega
   by_cases hge:needN r.c share o≤(seen+x)%18446744073709551616
   ·have g1:(((seen+x)%18446744073709551616:Nat):Int) ≥ (needN r.c share o:Nat):=by omega
    rw [if_pos hge] at hF
    simp only [ZB,endK,resK,packed,insVc,ne_eq,Nat.reduceEqDiff,Zad,hsum,g1]
    rw [hF]
    exact h w' hm
   ·have g1:¬(((seen+x)%18446744073709551616:Nat):Int) ≥ (needN r.c share o:Nat):=by omega
    rw [if_neg hge] at hF
    simp only [ZB,insVc,iopK,iopV,ne_eq,Nat.reduceEqDiff,reduceCtorEq,hsum,g1,h29]
    refine ⟨m-1,by omega,h7,h28,hm,i+1,_,by omega, ?_,rfl,Nat.mod_lt _ (by decide),hF⟩
    rw [wrap_i64 _ (by omega)];rfl
  ·have hil:i=65:=by omega
   subst hil
   simp only [ZB,endK,resK,packed,insVc,Zad,hi]
   have:r.cl.drop 65=[]:=List.drop_eq_nil_of_le (by rw [hr.len];omega)
   rw [this] at hF
   have e:r.at share o=64:=hF.symm
   rw [e] at h
   exact h w' hm
theorem enough_c (n o m s:Nat) (w:World) (K:Value→World→Prop) (hn:n<1048576) (hm:m<1048576) (ho:o<18446744073709551616) (hs:s<18446744073709551616)
  (h:K (.bool (enoughN n o m s)) w):Ok prog 38 #[.int .u64 n,.int .u64 o,.int .u64 m,.int .u64 s] w K:=by
 refine F38.enter (args:=[.int .u64 n,.int .u64 o,.int .u64 m,.int .u64 s]) (by simp) ?_
 unfold c38 r38
 have hsp:=enough_split n o m s (by omega) (by omega)
 have qd:∀x:Nat,x<18446744073709551616→IntKind.u64.wrap (Int.tdiv (x:Int) 4294967296)=((x/4294967296:Nat):Int):=fun x hx=>by
  rw [show Int.tdiv (x:Int) 4294967296=((x/4294967296:Nat):Int) from rfl]
  exact wrap_u64' _ (by omega)
 have qm:∀x:Nat,Int.tmod (x:Int) 4294967296=((x%4294967296:Nat):Int):=fun x=>rfl
 have bnd:∀a b:Nat,a<1048576→b<4294967296→a * b<4503599627370496:=fun a b ha hb=>by
  have:a * b≤1048575*4294967295:=Nat.mul_le_mul (by omega) (by omega)
  omega
 have b1:=bnd n (o/4294967296) hn (by omega)
 have b2:=bnd m (s/4294967296) hm (by omega)
 have b3:=bnd n (o%4294967296) hn (by omega)
 have b4:=bnd m (s%4294967296) hm (by omega)
 have t1:=times_wrap n (o/4294967296) (by omega)
 have t2:=times_wrap m (s/4294967296) (by omega)
 have t3:=times_wrap n (o%4294967296) (by omega)
 have t4:=times_wrap m (s%4294967296) (by omega)
 have d1:=qd o ho
 have d2:=qd s hs
 have d3:=qd (n * (o%4294967296)) (by omega)
 have d4:=qd (m * (s%4294967296)) (by omega)
 have p1:=plus_wrap (n * (o/4294967296)) (n * (o%4294967296)/4294967296) (by omega)
 have p2:=plus_wrap (m * (s/4294967296)) (m * (s%4294967296)/4294967296) (by omega)
 rw [← hsp] at h
 clear hsp bnd b1 b2
 have hx:n * (o%4294967296)<18446744073709551616:=by omega
 have hy:m * (s%4294967296)<18446744073709551616:=by omega
 clear b3 b4
 revert h
 simp only [ZB,insVc,iopK,iopV,ne_eq,Nat.reduceEqDiff,reduceCtorEq,Zac,Za,Zag,Zaf,Int.reduceEq,t1,t2,d1,d2]
 generalize n * (o%4294967296)=x at *
 generalize m * (s%4294967296)=y at *
 generalize n * (o/4294967296)=a at *
 generalize m * (s/4294967296)=b at *
 intro h
 have f1:=qm x
 have f2:=qm y
 by_cases g1:a+x/4294967296 > b+y/4294967296
 ·have g2:((a+x/4294967296:Nat):Int) > ((b+y/4294967296:Nat):Int):=by omega
  simp only [g1,decide_true,Zbw] at h
  simp only [ZB,endK,resK,packed,insVc,pickK,ne_eq,Nat.reduceEqDiff,Zad,Zaa,qm,t3,t4,d3,d4,p1,p2,g2]
  exact h
 ·have g2:¬((a+x/4294967296:Nat):Int) > ((b+y/4294967296:Nat):Int):=by omega
  by_cases e1:a+x/4294967296=b+y/4294967296
  ·have e2:(((a+x/4294967296:Nat):Int) == ((b+y/4294967296:Nat):Int))=true:=beq_iff_eq.2 (by omega)
   by_cases k1:x%4294967296 ≥ y%4294967296
   ·have k2:((x%4294967296:Nat):Int) ≥ ((y%4294967296:Nat):Int):=by omega
    rw [decide_eq_false g1,decide_eq_true e1,decide_eq_true k1] at h
    simp only [ZB,endK,resK,packed,insVc,pickK,iopK,iopV,ne_eq,Nat.reduceEqDiff,reduceCtorEq,Zad,Zaa,Zaf,Int.reduceEq,qm,t3,t4,d3,d4,p1,p2,g2,e2,k2]
    exact h
   ·have k2:¬((x%4294967296:Nat):Int) ≥ ((y%4294967296:Nat):Int):=by omega
    rw [decide_eq_false g1,decide_eq_true e1,decide_eq_false k1] at h
    simp only [ZB,endK,resK,packed,insVc,pickK,iopK,iopV,ne_eq,Nat.reduceEqDiff,reduceCtorEq,Zad,Zaa,Zaf,Int.reduceEq,qm,t3,t4,d3,d4,p1,p2,g2,e2,k2]
    exact h
  ·have e2:(((a+x/4294967296:Nat):Int) == ((b+y/4294967296:Nat):Int))=false:=beq_eq_false_iff_ne.2 (by omega)
   rw [decide_eq_false g1,decide_eq_false e1] at h
   simp only [ZB,endK,resK,packed,insVc,pickK,iopK,iopV,ne_eq,Nat.reduceEqDiff,reduceCtorEq,Zad,Zaf,qm,t3,t4,d3,d4,p1,p2,g2,e2]
   exact h
theorem at36_c (l:List Nat) (v:Value) (s o:Nat) (w:World) (K:Value→World→Prop) (hv:IsNs w v l) (hb:∀n∈l,n<18446744073709551616) (hl:l.length<1048576) (hs:s<18446744073709551616) (ho:o<18446744073709551616)
  (h:K (.int .i64 ((rowOf l).at s o:Nat)) w):Ok prog 25 #[v,.int .u64 s,.int .u64 o] w K:=by
 refine F25.enter (args:=[v,.int .u64 s,.int .u64 o]) (by simp) ?_
 unfold c25 r25
 obtain ⟨va,vc',rfl⟩:=hv.1
 have kl:((l.length:Int) == 0)=decide (l.length=0):=by by_cases hq:l.length=0 <;> simp [hq]
 have ko:((o:Int) == 0)=decide (o=0):=by by_cases hq:o=0 <;> simp [hq]
 have ks:((s:Int) == 0)=decide (s=0):=by by_cases hq:s=0 <;> simp [hq]
 by_cases c1:l.length=0
 ·have k1:((l.length:Int) == 0)=true:=by rw [kl,decide_eq_true c1]
  have e0:(rowOf l).at s o=0:=by unfold Rw.at;rw [if_pos (.inl c1)]
  rw [e0] at h
  simp only [ZB,endK,resK,packed,insVc,pickK,iopK,iopV,lenLK,ne_eq,Nat.reduceEqDiff,reduceCtorEq,Zac,Za,Zad,Zaa,k1]
  exact h
 have k1:((l.length:Int) == 0)=false:=by rw [kl,decide_eq_false c1]
 by_cases c2:o=0
 ·have k2:((o:Int) == 0)=true:=by rw [ko,decide_eq_true c2]
  have e0:(rowOf l).at s o=0:=by unfold Rw.at;rw [if_pos (.inr (.inl c2))]
  rw [e0] at h
  simp only [ZB,endK,resK,packed,insVc,pickK,iopK,iopV,lenLK,ne_eq,Nat.reduceEqDiff,reduceCtorEq,Zac,Za,Zag,Zad,Zaa,Zaf,k1,k2]
  exact h
 have k2:((o:Int) == 0)=false:=by rw [ko,decide_eq_false c2]
 by_cases c3:s=0
 ·have k3:((s:Int) == 0)=true:=by rw [ks,decide_eq_true c3]
  have e0:(rowOf l).at s o=0:=by unfold Rw.at;rw [if_pos (.inr (.inr c3))]
  rw [e0] at h
  simp only [ZB,endK,resK,packed,insVc,pickK,iopK,iopV,lenLK,ne_eq,Nat.reduceEqDiff,reduceCtorEq,Zac,Za,Zag,Zad,Zaf,k1,k2,k3]
  exact h
 have k3:((s:Int) == 0)=false:=by rw [ks,decide_eq_false c3]
 have hl0:l≠[]:=by intro e;rw [e] at c1;exact c1 rfl
 have hfirst:=at_first l (by omega) hb s o hl0 (by omega) (by omega)
 have hle:=at_le l (by omega) hb s o
 have hnsl:=hv
 have hcs:((s:Int) > o∧min s o=o)∨(¬(s:Int) > o∧min s o=s):=by omega
 have hm64:min s o<18446744073709551616:=by omega
 obtain ⟨A,hA⟩:∃A,A=(rowOf l).at s o:=⟨_,rfl⟩
 rw [← hA] at hle h
 have hfirst':∀k,enoughN (pre l k) o l.length (min s o)=true ↔ A≤k:=fun k=>by rw [hA];exact hfirst k
 clear hfirst hA
 have wl:IntKind.u64.wrap ((l.length:Nat):Int)=((l.length:Nat):Int):=wrap_u64' _ (by omega)
 rcases hcs with ⟨hso,hmin⟩|⟨hso,hmin⟩ <;>
 ·simp only [ZB,insVc,pickK,iopK,iopV,lenLK,ne_eq,Nat.reduceEqDiff,reduceCtorEq,Zac,Za,Zag,Zaf,k1,k2,k3,hso]
  refine vc_loop (fun m ρ ds u=>ds=[]∧u=w∧ρ 0 = .slice va l.length vc'∧ρ 1 = .int .u64 ((min s o:Nat):Int)∧ρ 2 = .int .u64 o∧∃k:Nat,k+m=65∧ρ 7 = .int .i64 k∧k≤A) 65 ?_ ?_
  ·exact ⟨rfl,rfl,by simp only [upd_other,initE_at,ne_eq,not_false_eq_true,reduceCtorEq,Zac,Za],by rw [hmin];simp only [ZB,ne_eq,Nat.reduceEqDiff,Zac,Za,Zag],by simp only [upd_other,initE_at,ne_eq,not_false_eq_true,Nat.reduceEqDiff,Zac,Za,Zag],0,rfl,by simp only [upd_same];rfl,by omega⟩
  ·rintro m ρ ds u ⟨rfl,rfl,q0,q1,q2,k,hkm,q7,hkA⟩
   have g:(k:Int)≤64:=by omega
   simp only [ZB,insVc,iopK,iopV,lenLK,ne_eq,reduceCtorEq,q0,q7,g]
   refine vc_loop (fun m2 ρ ds u2=>ds=[]∧u2=u∧ρ 0 = .slice va l.length vc'∧ρ 1 = .int .u64 ((min s o:Nat):Int)∧ρ 2 = .int .u64 o∧ρ 7 = .int .i64 k∧ρ 30 = .slice va l.length vc'∧ρ 31 = .int .i64 l.length ∧
    ∃i:Nat,i+m2=l.length∧ρ 32 = .int .i64 i∧ρ 8 = .int .u64 ((pre (l.take i) k:Nat):Int)) l.length ?_ ?_
   ·exact ⟨rfl,rfl,by simp only [upd_other,ne_eq,not_false_eq_true,reduceCtorEq,q0],by simp only [upd_other,ne_eq,not_false_eq_true,Nat.reduceEqDiff,q1],by simp only [upd_other,ne_eq,not_false_eq_true,Nat.reduceEqDiff,q2],by simp only [upd_other,ne_eq,not_false_eq_true,Nat.reduceEqDiff,q7],by simp only [upd_same,upd_other,ne_eq,not_false_eq_true,Nat.reduceEqDiff],by simp only [upd_same,upd_other,ne_eq,not_false_eq_true,Nat.reduceEqDiff],0,by omega,by simp only [upd_same];rfl,by simp only [upd_same,upd_other,ne_eq,not_false_eq_true,Nat.reduceEqDiff,Zao];rfl⟩
   ·clear q0 q1 q2 q7
    rintro m2 ρ ds u2 ⟨rfl,rfl,q0,q1,q2,q7,q30,q31,i,hi2,q32,q8⟩
    simp only [ZB,insVc,iopK,iopV,reduceCtorEq,q31,q32]
    by_cases hi:(i:Int)<l.length
    ·obtain ⟨x,hx⟩:∃x,l[i]? = some x:=⟨_,List.getElem?_eq_getElem (by omega)⟩
     obtain ⟨bk,of',c,cur,t,f,f1,f2,f3⟩:=hv.2 i x hx
     obtain ⟨rfl,rfl⟩:va=some ⟨bk,of',none⟩∧vc'=c:=by
      have:=f1;simp only [Value.slice.injEq] at this;exact ⟨this.1,this.2.2⟩
     have hxl:=hb x (List.mem_of_getElem? hx)
     have h0i:(0:Int)≤(i:Int)∧(i:Int)<(l.length:Int):=by omega
     have et:l.take (i+1)=l.take i ++ [x]:=by rw [List.take_add_one,hx];rfl
     have hpl:pre (l.take i) k≤l.length:=Nat.le_trans (pre_le _ _) (by rw [List.length_take];omega)
     have ep:pre (l.take (i+1)) k=pre (l.take i) k+(if cls x≤k then 1 else 0):=by
      rw [et];unfold pre;rw [List.countP_append,List.countP_singleton];simp only [decide_eq_true_eq]
     have wi:IntKind.i64.wrap ((i:Int)+1)=((i+1:Nat):Int):=by rw [wrap_i64 _ (by omega)];rfl
     have wp:IntKind.u64.wrap (((pre (l.take i) k:Nat):Int)+1)=((pre (l.take i) k+1:Nat):Int):=plus_wrap _ 1 (by omega)
     simp only [ZB,insVc,load1K,iaddrK,ne_eq,Nat.reduceEqDiff,Zae,Zab,Zbj,Zbm,hi,h0i,q30,q32,f2,f3]
     refine class36_c x u2 _ hxl ?_
     by_cases hc:cls x≤k
     ·have d:((cls x:Nat):Int)≤(k:Int):=by omega
      rw [if_pos hc] at ep
      simp only [ZB,insVc,iopK,iopV,ne_eq,Nat.reduceEqDiff,reduceCtorEq,d,q0,q1,q2,q7,q8,q30,q31,q32,wi,wp]
      exact ⟨m2-1,by omega,i+1,by omega,rfl,by rw [ep]⟩
     ·have d:¬((cls x:Nat):Int)≤(k:Int):=by omega
      rw [if_neg hc] at ep
      simp only [ZB,insVc,iopK,iopV,ne_eq,Nat.reduceEqDiff,reduceCtorEq,d,q0,q1,q2,q7,q8,q30,q31,q32,wi]
      exact ⟨m2-1,by omega,i+1,by omega,rfl,by rw [ep];rfl⟩
    ·have hil:i=l.length:=by omega
     subst hil
     rw [List.take_length] at q8
     have hpl:pre l k≤l.length:=pre_le _ _
     simp only [ZB,insVc,convK,lenLK,ne_eq,Nat.reduceEqDiff,reduceCtorEq,Zae,Zab,hi,q0,q1,q2,q8,wl]
     refine enough_c (pre l k) o l.length (min s o) u2 _ (by omega) (by omega) ho hm64 ?_
     have wk:IntKind.i64.wrap ((k:Int)+1)=((k+1:Nat):Int):=by rw [wrap_i64 _ (by omega)];rfl
     by_cases hkk:A≤k
     ·have e1:enoughN (pre l k) o l.length (min s o)=true:=(hfirst' k).2 hkk
      have e2:k=A:=by omega
      rw [e1]
      simp only [ZB,endK,resK,packed,insVc,ne_eq,Nat.reduceEqDiff,Zad,q7]
      rw [e2]
      exact h
     ·have e1:enoughN (pre l k) o l.length (min s o)=false:=by
       cases hh:enoughN (pre l k) o l.length (min s o) with
       | false=>rfl
       | true=>exact (hkk ((hfirst' k).1 hh)).elim
      rw [e1]
      simp only [ZB,insVc,iopK,iopV,ne_eq,Nat.reduceEqDiff,reduceCtorEq,q0,q1,q2,q7,wk]
      exact ⟨m-1,by omega,k+1,by omega,rfl,by omega⟩
end Go.Oct
