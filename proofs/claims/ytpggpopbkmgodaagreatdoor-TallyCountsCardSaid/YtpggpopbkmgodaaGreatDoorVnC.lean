import Derived.Test.YtpggpopbkmgodaaGreatDoorProg
import Derived.Test.YtpggpopbkmgodaaGreatDoorVcI
import Derived.Test.YtpggpopbkmgodaaGreatDoorVrK
import Derived.Test.YtpggpopbkmgodaaGreatDoorVcP
import Derived.Test.YtpggpopbkmgodaaGreatDoorTryzShelf
import Derived.Test.YtpggpopbkmgodaaGreatDoorVcL
set_option linter.unusedSimpArgs false
set_option linter.unusedVariables false
set_option linter.unusedSectionVars false
set_option linter.unnecessarySimpa false
namespace Go.VrL
open Go Go.Vc Go.Proofs.Tryz
set_option maxRecDepth 100000
noncomputable def c50:CC:=(.seq (.ops [⟨none,(some 6),(.mv (.const (.int .u64 0)))⟩,⟨none,(some 7),(.mv (.const (.int .u64 0)))⟩])
 (.seq (.seq (.ops [⟨none,(some 19),(.mv (.tmp 2))⟩,⟨none,(some 20),(.iop .eql (.tmp 19) (.const (.int .u64 0)))⟩])
 (.cond (.tmp 20)
 (.ops [⟨none,(some 21),(.load1 (.global 0))⟩,⟨none,none,(.raw 135 (.mk none (.panic (.tmp 21)) 0 "bits.go:520" #[(.mk 0 .data)] none))⟩])
 .skip))
 (.seq (.seq (.ops [⟨none,(some 22),(.mv (.tmp 2))⟩,⟨none,(some 23),(.mv (.tmp 0))⟩,⟨none,(some 24),(.iop .leq (.tmp 22) (.tmp 23))⟩])
 (.cond (.tmp 24)
 (.ops [⟨none,(some 25),(.load1 (.global 1))⟩,⟨none,none,(.raw 135 (.mk none (.panic (.tmp 25)) 0 "bits.go:523" #[(.mk 0 .data)] none))⟩])
 .skip))
 (.seq (.seq (.ops [⟨none,(some 26),(.mv (.tmp 0))⟩,⟨none,(some 27),(.iop .eql (.tmp 26) (.const (.int .u64 0)))⟩])
 (.cond (.tmp 27)
 (.seq (.draw 6 (opsOf (sub (bodyOf f50) [1,1,1,0,1,0,0])) [⟨none,(some 28),(.mv (.tmp 1))⟩,⟨none,(some 29),(.mv (.tmp 2))⟩,⟨none,(some 30),(.iop .quo (.tmp 28) (.tmp 29))⟩,⟨none,(some 31),(.mv (.tmp 1))⟩,⟨none,(some 32),(.mv (.tmp 2))⟩,⟨none,(some 33),(.iop .rem (.tmp 31) (.tmp 32))⟩,⟨none,(some 6),(.mv (.tmp 30))⟩,⟨none,(some 7),(.mv (.tmp 33))⟩])
 .ret)
 .skip))
 (.seq (.ops [⟨none,(some 34),(.mv (.tmp 2))⟩,⟨none,(some 35),(.call 65 [(.tmp 34)])⟩,⟨none,(some 36),(.conv .u64 (.tmp 35))⟩,⟨none,(some 8),(.mv (.tmp 36))⟩])
 (.seq (.ops [⟨none,(some 37),(.mv (.tmp 2))⟩,⟨none,(some 38),(.mv (.tmp 8))⟩,⟨none,(some 39),(.iop .shl (.tmp 37) (.tmp 38))⟩,⟨none,(some 2),(.mv (.tmp 39))⟩])
 (.seq (.ops [⟨none,(some 40),(.mv (.tmp 2))⟩,⟨none,(some 41),(.iop .shr (.tmp 40) (.const (.int .u64 32)))⟩,⟨none,(some 9),(.mv (.tmp 41))⟩])
 (.seq (.ops [⟨none,(some 42),(.mv (.tmp 2))⟩,⟨none,(some 43),(.iop .and (.tmp 42) (.const (.int .u64 4294967295)))⟩,⟨none,(some 10),(.mv (.tmp 43))⟩])
 (.seq (.ops [⟨none,(some 44),(.mv (.tmp 0))⟩,⟨none,(some 45),(.mv (.tmp 8))⟩,⟨none,(some 46),(.iop .shl (.tmp 44) (.tmp 45))⟩,⟨none,(some 47),(.mv (.tmp 1))⟩,⟨none,(some 48),(.mv (.tmp 8))⟩,⟨none,(some 49),(.iop .sub (.const (.int .u64 64)) (.tmp 48))⟩,⟨none,(some 50),(.iop .shr (.tmp 47) (.tmp 49))⟩,⟨none,(some 51),(.iop .or (.tmp 46) (.tmp 50))⟩,⟨none,(some 11),(.mv (.tmp 51))⟩])
 (.seq (.ops [⟨none,(some 52),(.mv (.tmp 1))⟩,⟨none,(some 53),(.mv (.tmp 8))⟩,⟨none,(some 54),(.iop .shl (.tmp 52) (.tmp 53))⟩,⟨none,(some 12),(.mv (.tmp 54))⟩])
 (.seq (.ops [⟨none,(some 55),(.mv (.tmp 12))⟩,⟨none,(some 56),(.iop .shr (.tmp 55) (.const (.int .u64 32)))⟩,⟨none,(some 13),(.mv (.tmp 56))⟩])
 (.seq (.ops [⟨none,(some 57),(.mv (.tmp 12))⟩,⟨none,(some 58),(.iop .and (.tmp 57) (.const (.int .u64 4294967295)))⟩,⟨none,(some 14),(.mv (.tmp 58))⟩])
 (.seq (.ops [⟨none,(some 59),(.mv (.tmp 11))⟩,⟨none,(some 60),(.mv (.tmp 9))⟩,⟨none,(some 61),(.iop .quo (.tmp 59) (.tmp 60))⟩,⟨none,(some 15),(.mv (.tmp 61))⟩])
 (.seq (.ops [⟨none,(some 62),(.mv (.tmp 11))⟩,⟨none,(some 63),(.mv (.tmp 15))⟩,⟨none,(some 64),(.mv (.tmp 9))⟩,⟨none,(some 65),(.iop .mul (.tmp 63) (.tmp 64))⟩,⟨none,(some 66),(.iop .sub (.tmp 62) (.tmp 65))⟩,⟨none,(some 16),(.mv (.tmp 66))⟩])
 (.seq (.block 0
 (.loop
 (.seq (.seq (.ops [⟨none,(some 67),(.mv (.tmp 15))⟩,⟨none,(some 68),(.iop .geq (.tmp 67) (.const (.int .u64 4294967296)))⟩,⟨none,(some 69),(.mv (.tmp 68))⟩,⟨(some (69,false)),(some 70),(.mv (.tmp 15))⟩,⟨(some (69,false)),(some 71),(.mv (.tmp 10))⟩,⟨(some (69,false)),(some 72),(.iop .mul (.tmp 70) (.tmp 71))⟩,⟨(some (69,false)),(some 73),(.mv (.tmp 16))⟩,⟨(some (69,false)),(some 74),(.iop .mul (.const (.int .u64 4294967296)) (.tmp 73))⟩,⟨(some (69,false)),(some 75),(.mv (.tmp 13))⟩,⟨(some (69,false)),(some 76),(.iop .add (.tmp 74) (.tmp 75))⟩,⟨(some (69,false)),(some 77),(.iop .gtr (.tmp 72) (.tmp 76))⟩,⟨none,(some 78),(.pick (.tmp 69) (.const (.bool true)) (.tmp 77))⟩])
 (.cond (.tmp 78)
 .skip
 (.exit 0)))
 (.block 1
 (.seq (.ops [⟨none,(some 79),(.mv (.tmp 15))⟩,⟨none,(some 80),(.iop .sub (.tmp 79) (.const (.int .u64 1)))⟩,⟨none,(some 15),(.mv (.tmp 80))⟩])
 (.seq (.ops [⟨none,(some 81),(.mv (.tmp 16))⟩,⟨none,(some 82),(.mv (.tmp 9))⟩,⟨none,(some 83),(.iop .add (.tmp 81) (.tmp 82))⟩,⟨none,(some 16),(.mv (.tmp 83))⟩])
 (.seq (.ops [⟨none,(some 84),(.mv (.tmp 16))⟩,⟨none,(some 85),(.iop .geq (.tmp 84) (.const (.int .u64 4294967296)))⟩])
 (.cond (.tmp 85)
 (.exit 0)
 .skip))))))))
 (.seq (.ops [⟨none,(some 86),(.mv (.tmp 11))⟩,⟨none,(some 87),(.iop .mul (.tmp 86) (.const (.int .u64 4294967296)))⟩,⟨none,(some 88),(.mv (.tmp 13))⟩,⟨none,(some 89),(.iop .add (.tmp 87) (.tmp 88))⟩,⟨none,(some 90),(.mv (.tmp 15))⟩,⟨none,(some 91),(.mv (.tmp 2))⟩,⟨none,(some 92),(.iop .mul (.tmp 90) (.tmp 91))⟩,⟨none,(some 93),(.iop .sub (.tmp 89) (.tmp 92))⟩,⟨none,(some 17),(.mv (.tmp 93))⟩])
 (.seq (.ops [⟨none,(some 94),(.mv (.tmp 17))⟩,⟨none,(some 95),(.mv (.tmp 9))⟩,⟨none,(some 96),(.iop .quo (.tmp 94) (.tmp 95))⟩,⟨none,(some 18),(.mv (.tmp 96))⟩])
 (.seq (.ops [⟨none,(some 97),(.mv (.tmp 17))⟩,⟨none,(some 98),(.mv (.tmp 18))⟩,⟨none,(some 99),(.mv (.tmp 9))⟩,⟨none,(some 100),(.iop .mul (.tmp 98) (.tmp 99))⟩,⟨none,(some 101),(.iop .sub (.tmp 97) (.tmp 100))⟩,⟨none,(some 16),(.mv (.tmp 101))⟩])
 (.seq (.block 2
 (.loop
 (.seq (.seq (.ops [⟨none,(some 102),(.mv (.tmp 18))⟩,⟨none,(some 103),(.iop .geq (.tmp 102) (.const (.int .u64 4294967296)))⟩,⟨none,(some 104),(.mv (.tmp 103))⟩,⟨(some (104,false)),(some 105),(.mv (.tmp 18))⟩,⟨(some (104,false)),(some 106),(.mv (.tmp 10))⟩,⟨(some (104,false)),(some 107),(.iop .mul (.tmp 105) (.tmp 106))⟩,⟨(some (104,false)),(some 108),(.mv (.tmp 16))⟩,⟨(some (104,false)),(some 109),(.iop .mul (.const (.int .u64 4294967296)) (.tmp 108))⟩,⟨(some (104,false)),(some 110),(.mv (.tmp 14))⟩,⟨(some (104,false)),(some 111),(.iop .add (.tmp 109) (.tmp 110))⟩,⟨(some (104,false)),(some 112),(.iop .gtr (.tmp 107) (.tmp 111))⟩,⟨none,(some 113),(.pick (.tmp 104) (.const (.bool true)) (.tmp 112))⟩])
 (.cond (.tmp 113)
 .skip
 (.exit 2)))
 (.block 3
 (.seq (.ops [⟨none,(some 114),(.mv (.tmp 18))⟩,⟨none,(some 115),(.iop .sub (.tmp 114) (.const (.int .u64 1)))⟩,⟨none,(some 18),(.mv (.tmp 115))⟩])
 (.seq (.ops [⟨none,(some 116),(.mv (.tmp 16))⟩,⟨none,(some 117),(.mv (.tmp 9))⟩,⟨none,(some 118),(.iop .add (.tmp 116) (.tmp 117))⟩,⟨none,(some 16),(.mv (.tmp 118))⟩])
 (.seq (.ops [⟨none,(some 119),(.mv (.tmp 16))⟩,⟨none,(some 120),(.iop .geq (.tmp 119) (.const (.int .u64 4294967296)))⟩])
 (.cond (.tmp 120)
 (.exit 2)
 .skip))))))))
 (.seq (.ops [⟨none,(some 121),(.mv (.tmp 15))⟩,⟨none,(some 122),(.iop .mul (.tmp 121) (.const (.int .u64 4294967296)))⟩,⟨none,(some 123),(.mv (.tmp 18))⟩,⟨none,(some 124),(.iop .add (.tmp 122) (.tmp 123))⟩,⟨none,(some 125),(.mv (.tmp 17))⟩,⟨none,(some 126),(.iop .mul (.tmp 125) (.const (.int .u64 4294967296)))⟩,⟨none,(some 127),(.mv (.tmp 14))⟩,⟨none,(some 128),(.iop .add (.tmp 126) (.tmp 127))⟩,⟨none,(some 129),(.mv (.tmp 18))⟩,⟨none,(some 130),(.mv (.tmp 2))⟩,⟨none,(some 131),(.iop .mul (.tmp 129) (.tmp 130))⟩,⟨none,(some 132),(.iop .sub (.tmp 128) (.tmp 131))⟩,⟨none,(some 133),(.mv (.tmp 8))⟩,⟨none,(some 134),(.iop .shr (.tmp 132) (.tmp 133))⟩,⟨none,(some 6),(.mv (.tmp 124))⟩,⟨none,(some 7),(.mv (.tmp 134))⟩])
 .ret))))))))))))))))))))
abbrev r50:List RV:=[(.tmp 6),(.tmp 7)]
theorem F50:FnOk prog 50 135 c50 r50:=FnOk.o func50
end Go.VrL
namespace Go.Oct
open Go Go.Vc Go.VrA Go.VrK Go.VrL Go.Tal Go.Proofs.Tryz
set_option maxRecDepth 100000
theorem class_c (n:Nat) (w:World) (K:Value→World→Prop) (hn:n<18446744073709551616) (h:K (.int .i64 (cls n:Nat)) w):Ok prog 22 #[.int .u64 n] w K:=by
 refine F22.enter (args:=[.int .u64 n]) (by simp) ?_
 unfold c22 r22
 simp only [ZB,insVc,ne_eq,reduceCtorEq,Zac,Zae,Zab,Za]
 refine ok_of_calls (by kernel_rfl) (Go.Proofs.Tryz.bits_Len64 (n:Int) w (by omega) (by omega)) ?_
 rintro e w' ⟨rfl,rfl⟩
 refine ⟨_,rfl, ?_⟩
 simp only [ZB,endK,resK,packed,insVc,Zad,Zbj]
 exact h
theorem div64_c (a b:Nat) (w:World) (K:Value→World→Prop) (ha:a<18446744073709551616) (hb:b<18446744073709551616) (h0:0<b) (h:∀w',Mod (fun _=>False) w w'→K (.tuple #[.int .u64 ((a/b:Nat):Int),.int .u64 ((a%b:Nat):Int)]) w') :
  Ok prog 50 #[.int .u64 0,.int .u64 a,.int .u64 b] w K:=by
 refine F50.enter (args:=[.int .u64 0,.int .u64 a,.int .u64 b]) (by simp) ?_
 unfold c50 r50
 have b0:((b:Int) == 0)=false:=by simp;omega
 have b1:¬(b:Int)≤0:=by omega
 have z0:((0:Int) == 0)=true:=rfl
 simp only [ZB,insVc,iopK,iopV,ne_eq,Nat.reduceEqDiff,reduceCtorEq,Zac,Za,Zag,b0,b1,z0]
 refine draw_d (fun _=>True) (by kernel_rfl) (by kernel_rfl) (by kernel_rfl) (by kernel_rfl) trivial ?_
 have b2:(b:Int)≠0:=by omega
 simp only [ZB,endK,resK,packed,insVc,iopK,iopV,ne_eq,Nat.reduceEqDiff,reduceCtorEq,Zac,Za,Zag,Zad,Zaw,Zaa,Zaf,pureI,vcD_nil,vcD_cons,stepD_pure,kindI,loadI,b2]
 have hd:a/b<18446744073709551616:=Nat.lt_of_le_of_lt (Nat.div_le_self _ _) ha
 rw [show Int.tdiv (a:Int) (b:Int)=((a/b:Nat):Int) from rfl,show Int.tmod (a:Int) (b:Int)=((a%b:Nat):Int) from rfl,wrap_u64 _ (by omega)]
 exact h _ (Mod.refl _ _).drew
theorem wrap_u64' (n:Nat) (h:n<2^64):IntKind.u64.wrap ((n:Nat):Int)=((n:Nat):Int):=wrap_u64 n h
def numV (l:List Nat):List Value:=l.map fun (n:Nat)=>.int .u64 (n:Int)
def _root_.Go.Tal.Rw.cells (r:Rw):List Value:=.int .u64 (r.c:Int) :: .int .u64 (r.s:Int) :: .int .u64 (r.lo:Int) :: .int .u64 (r.hi:Int) :: numV r.cl
def _root_.Go.Tal.Rw.val (r:Rw):Value:=.agg r.cells.toArray
structure _root_.Go.Tal.Rw.good (r:Rw):Prop where
 c:r.c<18446744073709551616
 s:r.s<18446744073709551616
 lo:r.lo<18446744073709551616
 hi:r.hi<18446744073709551616
 len:r.cl.length=65
 cl:∀n∈r.cl,n<18446744073709551616
theorem numV_len (l:List Nat):(numV l).length=l.length:=by simp [numV]
theorem numV_at (l:List Nat) (k:Nat):(numV l)[k]? = l[k]?.map (fun (n:Nat)=>.int .u64 (n:Int)):=by simp [numV]
theorem cells_len (r:Rw) (h:r.good):r.cells.length=69:=by simp [Rw.cells,numV_len,h.len]
theorem tCls:(prog).underlying 40=some (.array 65 27):=by kernel_rfl
theorem run_index_cls (cs:Array Value) (k:Nat) (hk:k<65) (v:Value) (hv:cs[k]? = some v) (w:World):(Instr.index 40 (.agg cs) (.int .i64 (k:Int))).run prog w = .ok v w:=by
 simp [Instr.index,Sem.run_bind,run_asIntOf,run_underlying tCls,Result.andThen,hk]
 exact run_part_plain _ (by kernel_rfl) hv
section
variable {P:Program} {n:Nat} {go:Value→World→Prop} {ρ:Env} {ds:List Deferred} {w:World} {o:Oper}
theorem rawK_index {x i:Operand} {t:TypeId} {v:Value} {w':World} (ho:o.op = .index t x i) (hx:inB n x=true) (hi:inB n i=true)
  (hr:(Instr.index t (ev ρ x) (ev ρ i)).run P w = .ok v w') (h:go v w'):RawK P go ρ ds n o w:=by
 unfold RawK
 simp only [execOp,ho,Sem.run_bind,mkA_eval n ρ ds x hx,mkA_eval n ρ ds i hi,hr,Result.andThen,pure,Sem.run]
 exact h
end
end Go.Oct
namespace Go.Vc
open Go
variable {P:Program} {ro:Option Nat} {n:Nat} {ops:Array Oper}
def stepE (P:Program) (w0:World) (ρ:Env) (ds:List Deferred) (w:World) (i:Ins) (k:Value→World→Prop):Kind→Prop
 | .pure=>insVc P (fun v _=>k v w) ρ [] default i
 | .load=>insVc P (fun v _=>k v w) ρ [] w0 i
 | .step=>insVc P (fun v w'=>Mod (fun _=>False) w0 w'∧k v w') ρ ds w i
def gateE (P:Program) (w0:World) (ρ:Env) (ds:List Deferred) (w:World) (i:Ins) (k:Value→World→Prop):Bool→Prop
 | true=>stepE P w0 ρ ds w i k (kindI i)
 | false=>k undef w
def vcE (P:Program) (w0:World) (ds:List Deferred):List In→(Env→World→Prop)→Env→World→Prop
 | [],K,ρ,w=>K ρ w
 | ⟨none,d,i⟩ :: l,K,ρ,w=>stepE P w0 ρ ds w i (fun v w'=>vcE P w0 ds l K (updO ρ d v) w') (kindI i)
 | ⟨some (s,want),d,i⟩ :: l,K,ρ,w=>gateE P w0 ρ ds w i (fun v w'=>vcE P w0 ds l K (updO ρ d v) w') (gate (ρ s) want)
theorem loadV_mono {go go':Value→World→Prop} {w:World} {o:Option Value} (h:loadV go w o) (hk:∀v,o=some v→go v w→go' v w):loadV go' w o:=by
 cases o with
 | none=>exact h.elim
 | some v=>exact hk v rfl h
theorem load_look {w0:World} {ρ:Env} {i:Ins} {k:Value→Prop} (hi:loadI i=true) (h:insVc P (fun v _=>k v) ρ [] w0 i):LoadD (Mod (fun _=>False) w0) P ρ i k:=by
 cases i with
 | load1 x =>
  simp only [insVc] at h
  cases hx:ev ρ x with
  | pointer a =>
   rw [hx] at h
   cases a with
   | none=>exact h.elim
   | some a =>
    obtain ⟨b,o,sp⟩:=a
    cases sp with
    | some _=>exact h.elim
    | none =>
     simp only [load1K] at h
     cases hb:w0.heap[b]? with
     | none=>rw [hb] at h;exact h.elim
     | some ob =>
      rw [hb] at h
      cases ob with
      | cells c t f =>
       simp only [loadO] at h
       cases hc:c[o]? with
       | none=>rw [hc] at h;exact h.elim
       | some v=>rw [hc] at h;exact loadD1 hx (fun W hW=>⟨c,t,f,hW.keep hb id,hc⟩) h
      | _=>exact h.elim
  | _=>rw [hx] at h;exact h.elim
 | loadN m x =>
  simp only [insVc] at h
  cases hx:ev ρ x with
  | pointer a =>
   rw [hx] at h
   cases a with
   | none=>exact h.elim
   | some a =>
    obtain ⟨b,o,sp⟩:=a
    cases sp with
    | some _=>exact h.elim
    | none =>
     simp only [loadNK] at h
     cases hb:w0.heap[b]? with
     | none=>rw [hb] at h;exact h.elim
     | some ob =>
      rw [hb] at h
      cases ob with
      | cells c t f =>
       simp only [loadNO] at h
       exact loadDN hx (fun W hW=>⟨c,t,f,hW.keep hb id,h.1,rfl⟩) h.2
      | _=>exact h.elim
  | _=>rw [hx] at h;exact h.elim
 | _=>simp [loadI] at hi
theorem loadO_mono {go go':Value→World→Prop} (hk:∀v w',go v w'→go' v w') {w:World} {o:Nat} {ob:Option Obj} (h:loadO go w o ob):loadO go' w o ob:=by
 cases ob with
 | none=>exact h.elim
 | some ob =>
  cases ob with
  | cells c t f=>exact loadV_mono h (fun v _ hv=>hk _ _ hv)
  | _=>exact h.elim
theorem insVc_mono {go go':Value→World→Prop} (hk:∀v w',go v w'→go' v w') {ρ:Env} {ds:List Deferred} {w:World} {i:Ins} (h:insVc P go ρ ds w i):insVc P go' ρ ds w i:=by
 cases i <;> simp only [insVc] at h ⊢
 case mv=>exact hk _ _ h
 case pick c a b=>unfold pickK at h ⊢; split at h <;> first|exact hk _ _ h|exact h.elim
 case alloc=>exact hk _ _ h
 case box=>exact hk _ _ h
 case load1 x=>unfold load1K at h ⊢; split at h <;> first|exact loadO_mono hk h|exact h.elim
 case loadN m x =>
  unfold loadNK at h ⊢
  split at h
  ·unfold loadNO at h ⊢; split at h <;> first|exact ⟨h.1,hk _ _ h.2⟩|exact h.elim
  ·exact h.elim
 case store1 x v =>
  unfold storeK at h ⊢
  split at h
  ·unfold storeO at h ⊢; split at h <;> first|exact ⟨h.1,hk _ _ h.2⟩|exact h.elim
  ·exact h.elim
 case storeN m x v =>
  unfold storeNK at h ⊢
  split at h
  ·unfold storeNO at h ⊢; split at h <;> first|exact ⟨h.1,hk _ _ h.2⟩|exact h.elim
  ·exact h.elim
 case nilc x=>unfold nilK at h ⊢; split at h <;> first|exact hk _ _ h|exact ⟨h.1,hk _ _ h.2⟩|exact h.elim
 case iop op x y=>unfold iopK at h ⊢; split at h <;> first|exact ⟨h.1,loadV_mono h.2 (fun v _ hv=>hk _ _ hv)⟩|exact h.elim
 case sop op x y=>unfold sopK at h ⊢; split at h <;> first|exact loadV_mono h (fun v _ hv=>hk _ _ hv)|exact h.elim
 case bop neq x y=>unfold bopK at h ⊢; split at h <;> first|exact hk _ _ h|exact h.elim
 case pnil k' neq x=>unfold pnilK at h ⊢; split at h <;> first|exact hk _ _ h|exact h.elim
 case not x=>unfold notK at h ⊢; split at h <;> first|exact hk _ _ h|exact h.elim
 case conv k' x=>unfold convK at h ⊢; split at h <;> first|exact hk _ _ h|exact h.elim
 case same x=>unfold sameK at h ⊢; split at h <;> first|exact hk _ _ h|exact h.elim
 case mkI t x=>exact hk _ _ h
 case mkF fn f c=>exact hk _ _ h
 case faddr off x=>unfold faddrK at h ⊢; split at h <;> first|exact hk _ _ h|exact h.elim
 case fld1 off x=>unfold fld1K at h ⊢; split at h <;> first|exact loadV_mono h (fun v _ hv=>hk _ _ hv)|exact h.elim
 case fldN off m x=>unfold fldNK at h ⊢; split at h <;> first|exact hk _ _ h|exact h.elim
 case iaddr sz x i=>unfold iaddrK at h ⊢; split at h <;> first|exact ⟨h.1,hk _ _ h.2⟩|exact h.elim
 case iaddrA len sz x i=>unfold iaddrAK at h ⊢; split at h <;> first|exact ⟨h.1,hk _ _ h.2⟩|exact h.elim
 case sidx x i=>unfold sidxK at h ⊢; split at h <;> first|exact ⟨h.1,loadV_mono h.2 (fun v _ hv=>hk _ _ hv)⟩|exact h.elim
 case ext x i=>unfold extK at h ⊢; split at h <;> first|exact loadV_mono h (fun v _ hv=>hk _ _ hv)|exact h.elim
 case lenS x=>unfold lenSK at h ⊢; split at h <;> first|exact hk _ _ h|exact h.elim
 case lenL x=>unfold lenLK at h ⊢; split at h <;> first|exact hk _ _ h|exact h.elim
 case call f args=>exact callK_mono h hk
 case callv x args=>exact callvK_mono h hk
 case inv x name args =>
  unfold invK at h ⊢
  split at h
  ·obtain ⟨f,y,h1,h2⟩:=h
   exact ⟨f,y,h1,callK_mono h2 hk⟩
  ·exact h.elim
 case build zero parts=>unfold buildK at h ⊢; split at h <;> first|exact hk _ _ h|exact h.elim
 case buildS t len zero parts=>unfold buildSK at h ⊢; split at h <;> first|exact hk _ _ h|exact h.elim
 case slS x lo hi =>
  unfold slSK at h ⊢
  split at h
  ·split at h
   ·exact ⟨h.1,hk _ _ h.2⟩
   ·exact h.elim
  ·exact h.elim
 case slL sz x lo hi =>
  unfold slLK at h ⊢
  split at h
  ·split at h
   ·exact ⟨h.1,hk _ _ h.2⟩
   ·exact h.elim
  ·exact h.elim
 case slA m sz x lo hi =>
  unfold slAK at h ⊢
  split at h
  ·split at h
   ·exact ⟨h.1,hk _ _ h.2⟩
   ·exact h.elim
  ·exact h.elim
 case raw m o=>exact upon_mono hk h
theorem stepD_of_E {w0:World} {ρ:Env} {ds:List Deferred} {w:World} {i:Ins} {k k':Value→World→Prop} (h:stepE P w0 ρ ds w i k (kindI i)) (hi:∀v w',k v w'→k' v w'):stepD P (Mod (fun _=>False) w0) ρ ds w i k' (kindI i):=by
 unfold kindI at h ⊢
 split
 ·rename_i hp
  rw [if_pos hp] at h
  exact insVc_mono (fun v _ hv=>hi v w hv) h
 ·rename_i hp
  rw [if_neg hp] at h
  split
  ·rename_i hl
   rw [if_pos hl] at h
   exact load_look hl (insVc_mono (fun v _ hv=>hi v w hv) h)
  ·rename_i hl
   rw [if_neg hl] at h
   show insVc P (fun v w'=>Mod (fun _=>False) w0 w'∧k' v w') ρ ds w i
   refine insVc_mono (go:=fun v w'=>Mod (fun _=>False) w0 w'∧k v w') ?_ h
   intro v w' hv
   exact ⟨hv.1,hi v w' hv.2⟩
theorem vcD_of_vcE {w0:World} {ds:List Deferred} {K:Env→World→Prop}:∀(l:List In) (ρ:Env) (w:World),vcE P w0 ds l K ρ w→vcD P (Mod (fun _=>False) w0) ds l K ρ w:=by
 intro l
 induction l with
 | nil=>intro ρ w h;exact h
 | cons x l ih =>
  intro ρ w h
  obtain ⟨g,d,i⟩:=x
  cases g with
  | none=>exact stepD_of_E h (fun v w' hv=>ih _ _ hv)
  | some p =>
   obtain ⟨s,want⟩:=p
   simp only [vcE] at h
   simp only [vcD]
   cases hg:gate (ρ s) want with
   | true=>rw [hg] at h;exact stepD_of_E h (fun v w' hv=>ih _ _ hv)
   | false=>rw [hg] at h;exact ih _ _ h
theorem draw_e {id:Nat} {l:List In} {Q:QT} {ρ:Env} {ds:List Deferred} {w:World} (hm:P.follows .mixedOrders=true) (hB:Region.lexB .any ops=true) (hl:compOps P n ops ops.toList=some l)
  (hS:chainB ops (stepsOf l)=true) (h:vcE P w ds l (fun ρ' w'=>Q .normal ρ' ds w') ρ w.drew):vc P ro n (.draw id ops l) Q ρ ds w :=
 draw_d _ hm hB hl hS (Mod.refl _ _).drew (vcD_of_vcE _ _ _ h)
section
variable {w0:World} {K:Env→World→Prop} {ρ:Env} {ds:List Deferred} {w:World} {d:Option Nat} {i:Ins} {l:List In} {k:Value→World→Prop}
theorem vcE_nil:vcE P w0 ds [] K ρ w=K ρ w:=nr rfl
theorem vcE_cons:vcE P w0 ds (⟨none,d,i⟩ :: l) K ρ w=stepE P w0 ρ ds w i (fun v w'=>vcE P w0 ds l K (updO ρ d v) w') (kindI i):=nr rfl
theorem vcE_gate {s:Nat} {want:Bool}:vcE P w0 ds (⟨some (s,want),d,i⟩ :: l) K ρ w=gateE P w0 ρ ds w i (fun v w'=>vcE P w0 ds l K (updO ρ d v) w') (gate (ρ s) want):=nr rfl
theorem gateE_true:gateE P w0 ρ ds w i k true=stepE P w0 ρ ds w i k (kindI i):=nr rfl
theorem gateE_false:gateE P w0 ρ ds w i k false=k undef w:=nr rfl
theorem stepE_pure:stepE P w0 ρ ds w i k .pure=insVc P (fun v _=>k v w) ρ [] default i:=nr rfl
theorem stepE_load:stepE P w0 ρ ds w i k .load=insVc P (fun v _=>k v w) ρ [] w0 i:=nr rfl
theorem stepE_step:stepE P w0 ρ ds w i k .step=insVc P (fun v w'=>Mod (fun _=>False) w0 w'∧k v w') ρ ds w i:=nr rfl
end
variable {P:Program} {n:Nat} {ro:Option Nat} {ops:Array Oper}
def succB (dp:List (List Nat)):Bool:=(List.range (dp.length-1)).all fun j=>dp.zipIdx.any fun x=>decide (j<x.2) && x.1.contains j
theorem succB_all {dp:List (List Nat)} (h:succB dp=true) {L:Nat→Bool} (hc:∀(j:Nat) d,dp[j]? = some d→L j=true→∀k∈d,L k=true) (hl:∀k∈(dp[dp.length-1]?).getD [],L k=true) :
  ∀(m j:Nat),dp.length-1-j=m→j<dp.length-1→L j=true:=by
 intro m
 induction m using Nat.strongRecOn with
 | _ m ih =>
  intro j hm hj
  have h1:=List.all_eq_true.1 h j (List.mem_range.2 hj)
  obtain ⟨⟨d,p⟩,hmem,hp⟩:=List.any_eq_true.1 h1
  simp only [Zbk,decide_eq_true_eq,Zca] at hp
  have hd:=List.mem_zipIdx_iff_getElem?.1 hmem
  have hplt:=(List.getElem?_eq_some_iff.1 hd).1
  by_cases he:p=dp.length-1
  ·refine hl j ?_
   simp only at hd
   rw [← he,hd]
   exact hp.2
  ·exact hc p d hd (ih (dp.length-1-p) (by omega) p rfl (by omega)) j hp.2
theorem draw_c (I:(Nat→Bool)→Env→World→Prop) {id:Nat} {l:List In} {dp:List (List Nat)} {Q:QT} {ρ:Env} {ds:List Deferred} {w:World} (hm:P.follows .mixedOrders=true) (hl:compOps P n ops ops.toList=some l) (hdp:depsOf ops=dp)
  (hg:l.all (fun x=>x.g.isNone)=true) (hlt:(dp.zipIdx.all fun x=>x.1.all fun k=>decide (k<x.2))=true) (hsu:succB dp=true) {N:Nat} (hN:l.length=N+1) (hNd:dp.length=N+1) (hNo:ops.size=N+1)
  (h0:I (fun _=>false) ρ w.drew)
  (hs:∀(L:Nat→Bool) (ρ:Env) (w:World) (i:Nat) (x:In) (d:List Nat),i<N→l[i]? = some x→dp[i]? = some d→L i=false→(∀k∈d,L k=true)→(∀(j:Nat) d,dp[j]? = some d→L j=true→∀k∈d,L k=true)→I L ρ w→insVc P (fun v w'=>I (fun k=>k == i || L k) (updO ρ x.d v) w') ρ ds w x.i)
  (he:∀(L:Nat→Bool) (ρ:Env) (w:World) (x:In),(∀i,i<N→L i=true)→I L ρ w→l[N]? = some x→insVc P (fun v w'=>Q .normal (updO ρ x.d v) ds w') ρ ds w x.i):vc P ro n (.draw id ops l) Q ρ ds w:=by
 refine draw_i (fun L ρ' w'=>(∀(j:Nat) d,dp[j]? = some d→L j=true→∀k∈d,L k=true)∧(L N=false→I L ρ' w')∧(L N=true→Q .normal ρ' ds w')) hm hl hdp hg hlt ⟨fun _ _ _ h=>(Bool.false_ne_true h).elim,fun _=>h0,fun h=>(Bool.false_ne_true h).elim⟩ ?_ ?_
 ·rintro L ρ' w' i x d hx hd hL hdeps ⟨hc,hI,hQ⟩
  have hc':∀(j:Nat) d,dp[j]? = some d→(j == i || L j)=true→∀k∈d,(k == i || L k)=true:=by
   intro j d' hj hb k hk
   by_cases hji:j=i
   ·subst hji
    rw [hd] at hj
    obtain rfl:=Option.some.inj hj
    rw [hdeps k hk];simp
   ·have:(j == i)=false:=by simpa using hji
    rw [this] at hb
    rw [hc j d' hj hb k hk];simp
  have hilt:i<N+1:=by rw [← hN];exact (List.getElem?_eq_some_iff.1 hx).1
  by_cases hiN:i=N
  ·subst hiN
   have hall:∀j,j<i→L j=true:=by
    intro j hj
    refine succB_all hsu hc ?_ _ j rfl (by omega)
    intro k hk
    have:dp.length-1=i:=by omega
    rw [this,hd] at hk
    exact hdeps k hk
   refine insVc_mono ?_ (he L ρ' w' x hall (hI hL) hx)
   intro v w'' hq
   exact ⟨hc',fun h=>by simp at h,fun _=>hq⟩
  ·have hLN:L N=false:=by
    cases h:L N with
    | false=>rfl
    | true =>
     have:L i=true:=by
      refine succB_all hsu hc ?_ _ i rfl (by omega)
      intro k hk
      have e:dp.length-1=N:=by omega
      rw [e] at hk
      cases hdn:dp[N]? with
      | none=>rw [hdn] at hk;cases hk
      | some dn=>rw [hdn] at hk;exact hc N dn hdn h k hk
     rw [this] at hL;cases hL
   refine insVc_mono ?_ (hs L ρ' w' i x d (by omega) hx hd hL hdeps hc (hI hLN))
   intro v w'' hi
   have hNi:(N == i || L N)=false:=by
    have:(N == i)=false:=by simpa using fun e=>hiN e.symm
    rw [this,hLN];rfl
   exact ⟨hc',fun _=>hi,fun h=>by have h2:(N == i || L N)=true:=h;rw [hNi] at h2;cases h2⟩
 ·rintro L ρ' w' hall ⟨_,_,hQ⟩
  exact hQ (hall N (by omega))
def RegI (fr:List (Nat × Value)) (fs:List (Nat × Nat × Value)) (L:Nat→Bool) (ρ:Env):Prop :=
 (∀p∈fr,ρ p.1=p.2)∧(∀p∈fs,L p.1=true→ρ p.2.1=p.2.2)
variable {fr:List (Nat × Value)} {fs:List (Nat × Nat × Value)} {L:Nat→Bool} {ρ:Env}
theorem RegI.start (hfr:∀p∈fr,ρ p.1=p.2):RegI fr fs (fun _=>false) ρ:=⟨hfr,fun _ _ h=>(Bool.false_ne_true h).elim⟩
theorem RegI.get (h:RegI fr fs L ρ) {k d:Nat} {v:Value} (hm:(k,d,v)∈fs) (hL:L k=true):ρ d=v:=h.2 _ hm hL
theorem RegI.frm (h:RegI fr fs L ρ) {d:Nat} {v:Value} (hm:(d,v)∈fr):ρ d=v:=h.1 _ hm
theorem reg_old {k j:Nat} (hne:j≠k) (h:(j == k || L j)=true):L j=true:=by
 have:(j == k)=false:=by simpa using hne
 rw [this] at h;exact h
theorem RegI.put (h:RegI fr fs L ρ) (k d:Nat) (v:Value) (h1:(fs.map fun p=>(p.1,p.2.1)).all (fun p=>if p.1 == k then p.2 == d else p.2 != d)=true) (hv:∀p∈fs,p.1=k→p.2.2=v)
  (h2:(fr.map (·.1)).all (· != d)=true):RegI fr fs (fun j=>j == k || L j) (upd ρ d v):=by
 obtain ⟨hfr,hfs⟩:=h
 refine ⟨fun p hp => ?_,fun p hp hL => ?_⟩
 ·have:=List.all_eq_true.1 h2 p.1 (List.mem_map.2 ⟨p,hp,rfl⟩)
  rw [upd_other (by simpa using this)];exact hfr p hp
 ·have h1p:=List.all_eq_true.1 h1 (p.1,p.2.1) (List.mem_map.2 ⟨p,hp,rfl⟩)
  by_cases hk:p.1=k
  ·simp only [hk,beq_self_eq_true,Zaa,beq_iff_eq] at h1p
   rw [h1p,upd_same,hv p hp hk]
  ·have hkb:(p.1 == k)=false:=by simpa using hk
   simp only [hkb,Bool.false_eq_true,Zaf,bne_iff_ne] at h1p
   rw [upd_other h1p];exact hfs p hp (reg_old hk hL)
theorem RegI.mark (h:RegI fr fs L ρ) (k:Nat) (h1:(fs.map (·.1)).all (· != k)=true):RegI fr fs (fun j=>j == k || L j) ρ:=by
 refine ⟨h.1,fun p hp hL=>h.2 p hp (reg_old ?_ hL)⟩
 have:=List.all_eq_true.1 h1 p.1 (List.mem_map.2 ⟨p,hp,rfl⟩)
 simpa using this
section
variable {P:Program} {n:Nat} {go:Value→World→Prop} {ds:List Deferred} {w:World} {o:Oper}
theorem rawK_min2 {s x:Operand} {t tx:TypeId} {k k':IntKind} {a b:Int} (ho:o.op = .call { callee:=.builtin .min,args:=#[s,x],argTypes:=#[t,tx] })
  (hs:inB n s=true) (hx:inB n x=true) (ha:ev ρ s = .int k a) (hb:ev ρ x = .int k' b) (h:go (.int k (min a b)) w):RawK P go ρ ds n o w:=by
 unfold RawK
 simp only [execOp,ho,resolve,Sem.run_bind,pure,Sem.run,Result.andThen,invoke,builtin]
 have e:(#[s,x]:Array Operand).map (Vc.mkA n ρ ds).eval = #[.int k a,.int k' b]:=by simp [mkA_eval n ρ ds s hs,mkA_eval n ρ ds x hx,ha,hb]
 rw [e]
 have e2:(if b<a then b else a)=min a b:=by omega
 simp only [Builtin.min_,List.foldlM_cons,List.foldlM_nil,Sem.run_bind,Builtin.min2,pure,Sem.run,Result.andThen,e2]
 exact h
end
variable {P:Program}
def GenI (w0:World) (Own:Nat→Prop) (Fx:World→Prop) (fr:List (Nat × Value)) (fs:List (Nat × Nat × Value)) (a st ta n:Nat) (T:TypeId) (fin:Array Value) (L:Nat→Bool) (ρ:Env) (u:World):Prop :=
 Mod Own w0 u∧Fx u∧(∀p∈fr,ρ p.1=p.2)∧(∀p∈fs,L p.1=true→ρ p.2.1=p.2.2) ∧
  (L a=true→∃x cs,ρ ta = .pointer (some ⟨x,0,none⟩)∧w0.heap.size≤x∧u.heap[x]? = some (.cells cs T (0,0))∧cs.size=n∧(L st=true→cs=fin))
variable {w0:World} {Own:Nat→Prop} {Fx:World→Prop} {fr:List (Nat × Value)} {fs:List (Nat × Nat × Value)} {a st ta n:Nat} {T:TypeId} {fin:Array Value} {L:Nat→Bool} {ρ:Env} {u u':World}
theorem GenI.start (hm:Mod Own w0 u) (hF:Fx u) (hfr:∀p∈fr,ρ p.1=p.2):GenI w0 Own Fx fr fs a st ta n T fin (fun _=>false) ρ u :=
 ⟨hm,hF,hfr,fun _ _ h=>(Bool.false_ne_true h).elim,fun h=>(Bool.false_ne_true h).elim⟩
theorem GenI.get (h:GenI w0 Own Fx fr fs a st ta n T fin L ρ u) {k d:Nat} {v:Value} (hm:(k,d,v)∈fs) (hL:L k=true):ρ d=v:=h.2.2.2.1 _ hm hL
theorem GenI.frm (h:GenI w0 Own Fx fr fs a st ta n T fin L ρ u) {d:Nat} {v:Value} (hm:(d,v)∈fr):ρ d=v:=h.2.2.1 _ hm
theorem old_of {k j:Nat} (hne:j≠k) (h:(j == k || L j)=true):L j=true:=by
 have:(j == k)=false:=by simpa using hne
 rw [this] at h;exact h
theorem GenI.put (h:GenI w0 Own Fx fr fs a st ta n T fin L ρ u) (k d:Nat) (v:Value) (h1:(fs.map fun p=>(p.1,p.2.1)).all (fun p=>if p.1 == k then p.2 == d else p.2 != d)=true) (hv:∀p∈fs,p.1=k→p.2.2=v)
  (h2:(fr.map (·.1)).all (· != d)=true) (h3:(d != ta && k != a && k != st)=true):GenI w0 Own Fx fr fs a st ta n T fin (fun j=>j == k || L j) (upd ρ d v) u:=by
 obtain ⟨hm,hF,hfr,hfs,ha⟩:=h
 simp only [Zbk,bne_iff_ne] at h3
 refine ⟨hm,hF,fun p hp => ?_,fun p hp hL => ?_,fun hL => ?_⟩
 ·have:=List.all_eq_true.1 h2 p.1 (List.mem_map.2 ⟨p,hp,rfl⟩)
  rw [upd_other (by simpa using this)];exact hfr p hp
 ·have h1p:=List.all_eq_true.1 h1 (p.1,p.2.1) (List.mem_map.2 ⟨p,hp,rfl⟩)
  by_cases hk:p.1=k
  ·simp only [hk,beq_self_eq_true,Zaa,beq_iff_eq] at h1p
   rw [h1p,upd_same,hv p hp hk]
  ·have hkb:(p.1 == k)=false:=by simpa using hk
   simp only [hkb,Bool.false_eq_true,Zaf,bne_iff_ne] at h1p
   rw [upd_other h1p];exact hfs p hp (old_of hk hL)
 ·obtain ⟨x,cs,e1,e2,e3,e4,e5⟩:=ha (old_of (fun e=>h3.1.2 e.symm) hL)
  exact ⟨x,cs,by rw [upd_other (fun e=>h3.1.1 e.symm)];exact e1,e2,e3,e4,fun hs=>e5 (old_of (fun e=>h3.2 e.symm) hs)⟩
theorem GenI.world (h:GenI w0 Own Fx fr fs a st ta n T fin L ρ u) (hm:Mod Own u u') (hF:Fx u') (hO:∀k,Own k→k<w0.heap.size):GenI w0 Own Fx fr fs a st ta n T fin L ρ u':=by
 obtain ⟨hm0,_,hfr,hfs,ha⟩:=h
 refine ⟨hm0.trans hm,hF,hfr,hfs,fun hL => ?_⟩
 obtain ⟨x,cs,e1,e2,e3,e4,e5⟩:=ha hL
 exact ⟨x,cs,e1,e2,hm.keep e3 (fun hx=>by have:=hO x hx;omega),e4,e5⟩
theorem GenI.alloc (h:GenI w0 Own Fx fr fs a st ta n T fin L ρ u) (cs:Array Value) (hcs:cs.size=n) (hF:Fx (u.alloc (.cells cs T))) (hst:L st=false) (h1:(fs.map fun p=>(p.1,p.2.1)).all (fun p=>p.1 != a && p.2 != ta)=true) (h2:(fr.map (·.1)).all (· != ta)=true) (h3:(st != a)=true) :
  GenI w0 Own Fx fr fs a st ta n T fin (fun j=>j == a || L j) (upd ρ ta (.pointer (some ⟨u.heap.size,0,none⟩))) (u.alloc (.cells cs T)):=by
 obtain ⟨hm,_,hfr,hfs,ha⟩:=h
 refine ⟨hm.alloc _,hF,fun p hp => ?_,fun p hp hL => ?_,fun _=>⟨u.heap.size,cs,upd_same,hm.size,get_alloc_new _ _,hcs,fun hs => ?_⟩⟩
 ·have:=List.all_eq_true.1 h2 p.1 (List.mem_map.2 ⟨p,hp,rfl⟩)
  rw [upd_other (by simpa using this)];exact hfr p hp
 ·have h1p:=List.all_eq_true.1 h1 (p.1,p.2.1) (List.mem_map.2 ⟨p,hp,rfl⟩)
  simp only [Zbk,bne_iff_ne] at h1p
  rw [upd_other h1p.2];exact hfs p hp (old_of h1p.1 hL)
 ·have:=old_of (k:=a) (by simpa using h3) hs
  rw [hst] at this;cases this
theorem GenI.box (h:GenI w0 Own Fx fr fs a st ta n T fin L ρ u) (hL:L a=true):∃x cs,ρ ta = .pointer (some ⟨x,0,none⟩)∧w0.heap.size≤x∧u.heap[x]? = some (.cells cs T (0,0))∧cs.size=n∧(L st=true→cs=fin):=h.2.2.2.2 hL
theorem GenI.store (h:GenI w0 Own Fx fr fs a st ta n T fin L ρ u) (hL:L a=true) {x:Nat} (hx:ρ ta = .pointer (some ⟨x,0,none⟩)) (hfin:fin.size=n) (hF:Fx (set u x (.cells fin T (0,0)))) (h1:(fs.map fun p=>(p.1,p.2.1)).all (fun p=>p.1 != st)=true) (h3:(st != a)=true) :
  GenI w0 Own Fx fr fs a st ta n T fin (fun j=>j == st || L j) ρ (set u x (.cells fin T (0,0))):=by
 obtain ⟨hm,_,hfr,hfs,ha⟩:=h
 obtain ⟨x',cs,e1,e2,e3,e4,e5⟩:=ha hL
 have:x'=x:=by rw [e1] at hx;simpa using hx
 subst this
 refine ⟨hm.set (.inl e2),hF,hfr,fun p hp hL => ?_,fun _=>⟨x',fin,e1,e2,get_set_same _ _ _ (lt_of_get e3),hfin,fun _=>rfl⟩⟩
 have h1p:=List.all_eq_true.1 h1 (p.1,p.2.1) (List.mem_map.2 ⟨p,hp,rfl⟩)
 exact hfs p hp (old_of (by simpa using h1p) hL)
theorem setMany_all (cs:Array Value) (l:List Value) (h:cs.size=l.length):setMany cs 0 l=l.toArray:=by
 have key:∀(l:List Value) (o:Nat) (c:Array Value),c.size=o+l.length→(setMany c o l).toList=c.toList.take o ++ l:=by
  intro l
  induction l with
  | nil=>intro o c hc;simp only [setMany,Zbu];rw [List.take_of_length_le (by rw [Array.length_toList,hc];simp)]
  | cons v l ih =>
   intro o c hc
   simp only [setMany]
   rw [ih (o+1) _ (by rw [Array.size_setIfInBounds,hc,List.length_cons];omega)]
   simp only [Array.toList_setIfInBounds]
   rw [List.take_set,List.take_add_one]
   have ho:o<c.toList.length:=by rw [Array.length_toList,hc,List.length_cons];omega
   rw [List.getElem?_eq_getElem ho]
   simp only [Option.toList_some]
   rw [List.set_append_right _ _ (by rw [List.length_take];omega)]
   have:o-(c.toList.take o).length=0:=by rw [List.length_take];omega
   rw [this]
   simp
 have:=key l 0 cs (by omega)
 simp only [Zao,Zad] at this
 exact Array.ext' (by rw [this])
end Go.Vc
namespace Go.Oct
open Go Go.Vc Go.VrA Go.VrK Go.VrL Go.Tal Go.Proofs.Tryz
set_option maxRecDepth 100000
theorem condP_genT {A B:Env→List Deferred→World→Prop} {ρ:Env} {ds:List Deferred} {w:World} {v:Value} (h:∀W,W=w→condP A B ρ ds W v):condP A B ρ ds w v:=h w rfl
theorem cells_ext (r:Rw) (hr:r.good):r.cells.toArray.extract 4 69=(numV r.cl).toArray:=by
 have hcl:numV r.cl=r.cells.drop 4:=rfl
 rw [hcl]
 apply Array.ext'
 rw [Array.toList_extract]
 simp only [Zap]
 rw [List.take_of_length_le]
 rw [List.length_drop,cells_len r hr]
 omega
theorem cells_set (r:Rw) (i v:Nat):r.cells.set (4+i) (.int .u64 (v:Int))=(Rw.mk r.c r.s r.lo r.hi (r.cl.set i v)).cells:=by
 rw [Nat.add_comm]
 simp [Rw.cells,numV,List.map_set]
theorem cells_at (r:Rw) (i:Nat):r.cells[4+i]? = r.cl[i]?.map (fun (n:Nat)=>.int .u64 (n:Int)):=by
 rw [Nat.add_comm]
 simp [Rw.cells,numV]
theorem vc_genT {P:Program} {ro:Option Nat} {n:Nat} {c:CC} {Q:QT} {ρ:Env} {ds:List Deferred} {w:World} (h:∀W,W=w→vc P ro n c Q ρ ds W):vc P ro n c Q ρ ds w:=h w rfl
theorem plus_c (r s:Rw) (w:World) (K:Value→World→Prop) (hr:r.good) (hs:s.good)
  (h:∀w',Mod (fun _=>False) w w'→K (r.plus s).val w'):Ok prog 29 #[r.val,s.val] w K:=by
 refine F29.enter (args:=[r.val,s.val]) (by simp) ?_
 unfold c29 r29
 have hrz:r.cells.toArray.size=69:=by rw [List.size_toArray];exact cells_len r hr
 have hsz:s.cells.toArray.size=69:=by rw [List.size_toArray];exact cells_len s hs
 have r0:r.cells.toArray[0]? = some (.int .u64 (r.c:Int)):=rfl
 have s0:s.cells.toArray[0]? = some (.int .u64 (s.c:Int)):=rfl
 have re:r.cells.toArray.extract 0 69=r.cells.toArray:=by rw [← hrz];exact Array.extract_size
 have se:s.cells.toArray.extract 0 69=s.cells.toArray:=by rw [← hsz];exact Array.extract_size
 have pr:r.cells.all isPlain=true:=by simp [Rw.cells,numV,isPlain]
 have ps:s.cells.all isPlain=true:=by simp [Rw.cells,numV,isPlain]
 have st0:(0:Nat)<69:=by decide
 simp only [ZB,insVc,load1K,iopK,iopV,faddrK,Value.cells,ne_eq,Nat.reduceEqDiff,Nat.reduceAdd,reduceCtorEq,Zac,Za,Zag,Zaa,Zaf,get_alloc,Zb,Nat.reduceAdd,Zbg,Zba,Nat.reduceEqDiff,Zaz,Rw.val,s0]
 refine condP_genT ?_
 intro w1 hw1
 have hm1:Mod (fun _=>False) w w1:=by rw [hw1];exact (((Mod.refl _ _).alloc _).alloc _).alloc _
 have a1:w1.heap[w.heap.size]? = some (.cells r.cells.toArray 42 (0,0)):=by rw [hw1];simp only [Nat.reduceAdd,reduceCtorEq,Zaa,Zaf,size_alloc,get_alloc,size_alloc,Zb,Nat.reduceAdd,Zbi,Zaz]
 have b1:w1.heap[w.heap.size+1]? = some (.cells s.cells.toArray 42 (0,0)):=by rw [hw1];simp only [Nat.reduceEqDiff,Nat.reduceAdd,Zaa,Zaf,size_alloc,get_alloc,size_alloc,Zb,Nat.reduceAdd,Zbg,Zba,Nat.reduceEqDiff,Zaz]
 have c1:w1.heap[w.heap.size+2]? = some (.cells Rw.zero.cells.toArray 42 (0,0)):=by rw [hw1];simp only [Nat.reduceEqDiff,Nat.reduceAdd,reduceCtorEq,Zaa,Zaf,size_alloc,get_alloc,size_alloc,Zb,Nat.reduceAdd,Zbg,Zba,Nat.reduceEqDiff];rfl
 have zz:Rw.zero.cells.toArray.size=69:=by decide
 have la:=lt_of_get a1
 have lb:=lt_of_get b1
 have lc:=lt_of_get c1
 have zl:69≤Rw.zero.cells.length:=by decide
 clear hw1
 by_cases hs0:s.c=0
 ·have k1:((s.c:Int) == 0)=true:=by rw [hs0];rfl
  have e:r.plus s=r:=by unfold Rw.plus;rw [if_pos hs0]
  rw [e] at h
  have se1:setMany Rw.zero.cells.toArray 0 r.cells=r.cells.toArray:=setMany_all _ _ (by rw [zz,cells_len r hr])
  simp only [ZB,endK,resK,resN,packed,insVc,loadNK,storeNK,isPlain,ne_eq,Nat.reduceEqDiff,Nat.reduceLeDiff,Zai,Zad,Zau,Zbb,Nat.reduceEqDiff,k1,a1,c1,hrz,re,se1,lc,pr,zl]
  exact h _ ((hm1.set (.inl (by omega))))
 have k1:((s.c:Int) == 0)=false:=by simp;omega
 by_cases hr0:r.c=0
 ·have k2:((r.c:Int) == 0)=true:=by rw [hr0];rfl
  have e:r.plus s=s:=by unfold Rw.plus;rw [if_neg hs0,if_pos hr0]
  rw [e] at h
  have se1:setMany Rw.zero.cells.toArray 0 s.cells=s.cells.toArray:=setMany_all _ _ (by rw [zz,cells_len s hs])
  simp only [ZB,endK,resK,resN,packed,insVc,load1K,loadNK,storeNK,iopK,iopV,faddrK,isPlain,ne_eq,Nat.reduceEqDiff,Nat.reduceLeDiff,reduceCtorEq,Zai,Zad,Zau,Zbb,Nat.reduceEqDiff,k1,k2,a1,b1,c1,r0,hsz,se,se1,lc,ps,zl]
  exact h _ ((hm1.set (.inl (by omega))))
 have k2:((r.c:Int) == 0)=false:=by simp;omega
 have s1:s.cells.toArray[1]? = some (.int .u64 (s.s:Int)):=rfl
 have r1:r.cells.toArray[1]? = some (.int .u64 (r.s:Int)):=rfl
 have nab:w.heap.size≠w.heap.size+1:=by omega
 have wr:∀x y:Nat,IntKind.u64.wrap ((x:Int)+(y:Int))=(((x+y)%18446744073709551616:Nat):Int):=fun x y=>by rw [IntKind.wrap_u64];omega
 have hA:r.cells.set 0 (.int .u64 (((r.c+s.c)%18446744073709551616:Nat):Int))=(Rw.mk ((r.c+s.c)%18446744073709551616) r.s r.lo r.hi r.cl).cells:=rfl
 have hA1:(Rw.mk ((r.c+s.c)%18446744073709551616) r.s r.lo r.hi r.cl).cells[1]? = some (.int .u64 (r.s:Int)):=rfl
 have hB:(Rw.mk ((r.c+s.c)%18446744073709551616) r.s r.lo r.hi r.cl).cells.set 1 (.int .u64 (((r.s+s.s)%18446744073709551616:Nat):Int))=(Rw.mk ((r.c+s.c)%18446744073709551616) ((r.s+s.s)%18446744073709551616) r.lo r.hi r.cl).cells:=rfl
 have hz1:69=(Rw.mk ((r.c+s.c)%18446744073709551616) r.s r.lo r.hi r.cl).cells.toArray.size:=by rw [← hrz];rfl
 simp only [ZB,insVc,load1K,storeK,iopK,iopV,faddrK,isPlain,ne_eq,Nat.reduceEqDiff,Nat.reduceLT,Nat.reduceLeDiff,reduceCtorEq,Zah,Zai,Zal,Zaf,Zbb,get_set,Zba,Nat.reduceEqDiff,Nat.reduceLT,Zaz,k1,k2,a1,b1,r0,s0,s1,la,hrz,wr,hA,hA1,hB]
 refine ⟨by simp [Rw.cells], ?_⟩
 obtain ⟨R1,hR1⟩:∃R1:Rw,R1=⟨(r.c+s.c)%18446744073709551616,(r.s+s.s)%18446744073709551616,r.lo,r.hi,r.cl⟩:=⟨_,rfl⟩
 rw [← hR1]
 refine vc_genT ?_
 intro w2 hw2
 have hm2:Mod (fun _=>False) w w2:=by rw [hw2];exact (hm1.set (.inl (Nat.le_refl _))).set (.inl (Nat.le_refl _))
 have a2:w2.heap[w.heap.size]? = some (.cells R1.cells.toArray 42 (0,0)):=by
  rw [hw2];exact get_set_same _ _ _ (by simp only [size_set,size_set];exact la)
 have b2:w2.heap[w.heap.size+1]? = some (.cells s.cells.toArray 42 (0,0)):=by
  rw [hw2];simp only [Zaf,size_set,get_set,size_set,Zba,Zaz,false_and,b1]
 have c2:w2.heap[w.heap.size+2]? = some (.cells Rw.zero.cells.toArray 42 (0,0)):=by
  have nac:w.heap.size≠w.heap.size+2:=by omega
  rw [hw2];simp only [reduceCtorEq,Zaf,size_set,get_set,size_set,Zba,false_and,c1]
 clear hw2
 have nac:w.heap.size≠w.heap.size+2:=by omega
 have hh:R1.hi=r.hi:=by rw [hR1]
 have l2:∀c q y h cl,(Rw.mk c q y h cl).cells[2]? = some (.int .u64 (y:Int)):=fun _ _ _ _ _=>rfl
 have l3:∀c q y h cl,(Rw.mk c q y h cl).cells[3]? = some (.int .u64 (h:Int)):=fun _ _ _ _ _=>rfl
 have s2:s.cells[2]? = some (.int .u64 (s.lo:Int)):=rfl
 have s3:s.cells[3]? = some (.int .u64 (s.hi:Int)):=rfl
 have mn:(min (r.lo:Int) s.lo)=((min r.lo s.lo:Nat):Int):=by omega
 have mx:(max (r.hi:Int) s.hi)=((max r.hi s.hi:Nat):Int):=by omega
 refine draw_c (dp:=[[],[0],[],[2],[1,3],[],[5],[],[7],[6,8],[0,1,2,3,4,5,6],[10,4,0,1,2,3,4,5,6],[0,1,2,3,4,5,6,7,8,9,10,11],[12,9,11,0,1,2,3,4,5,6,7,8,9,10,11]]) (N:=13)
  (fun L ρ u=>RegI [(2,ptr w.heap.size),(3,ptr (w.heap.size+1)),(4,ptr (w.heap.size+2))]
   [(0,29,.pointer (some ⟨w.heap.size,2,none⟩)),(1,30,.int .u64 (r.lo:Int)),(2,31,.pointer (some ⟨w.heap.size+1,2,none⟩)),(3,32,.int .u64 (s.lo:Int)),(4,33,.int .u64 (min (r.lo:Int) s.lo)),
    (5,34,.pointer (some ⟨w.heap.size,3,none⟩)),(6,35,.int .u64 (r.hi:Int)),(7,36,.pointer (some ⟨w.heap.size+1,3,none⟩)),(8,37,.int .u64 (s.hi:Int)),(9,38,.int .u64 (max (r.hi:Int) s.hi)),
    (10,39,.pointer (some ⟨w.heap.size,2,none⟩)),(12,40,.pointer (some ⟨w.heap.size,3,none⟩))] L ρ ∧
   Mod (fun _=>False) w u∧u.heap[w.heap.size+1]? = some (.cells s.cells.toArray 42 (0,0))∧u.heap[w.heap.size+2]? = some (.cells Rw.zero.cells.toArray 42 (0,0)) ∧
   ∃q:Nat,u.heap[w.heap.size]? = some (.cells (Rw.mk R1.c R1.s q R1.hi R1.cl).cells.toArray 42 (0,0))∧(L 11=false→q=r.lo)∧(L 11=true→q=min r.lo s.lo))
  (by kernel_rfl) (by kernel_rfl) (by kernel_rfl) (by kernel_rfl) (by kernel_rfl) (by kernel_rfl) rfl rfl (by kernel_rfl) ?_ ?_ ?_
 ·refine ⟨RegI.start ?_,hm2.drew,b2,c2,r.lo, ?_,fun _=>rfl,fun h=>(Bool.false_ne_true h).elim⟩
  ·intro p hp
   simp only [Zbo,Zbp,or_false] at hp
   rcases hp with rfl|rfl|rfl <;> simp only [upd_same,upd_other,ne_eq,not_false_eq_true,Nat.reduceEqDiff]
  ·have:Rw.mk R1.c R1.s r.lo R1.hi R1.cl=R1:=by rw [hR1]
   rw [this];exact a2
 ·rintro L ρ u k x d hk15 hx' hd hL hdeps hcl ⟨hI,hmu,bu,cu,q,au,q1,q2⟩
  have keepq:∀k,k≠11→((k == 11 || L 11)=false→q=r.lo)∧((k == 11 || L 11)=true→q=min r.lo s.lo):=by
   intro k hk
   have e:(k == 11)=false:=by simpa using hk
   rw [e,Bool.false_or]
   exact ⟨q1,q2⟩
  obtain rfl|rfl|rfl|rfl|rfl|rfl|rfl|rfl|rfl|rfl|rfl|rfl|rfl:k=0∨k=1∨k=2∨k=3∨k=4∨k=5∨k=6∨k=7∨k=8∨k=9∨k=10∨k=11∨k=12:=by omega
  all_goals (obtain rfl:=Option.some.inj hx';obtain rfl:=Option.some.inj hd)
  ·simp only [updO_some,ev_tmp,insVc,faddrK,Nat.zero_add,hI.frm (d:=2) (v:=ptr w.heap.size) (by simp)]
   exact ⟨hI.put 0 29 _ rfl (by simp) rfl,hmu,bu,cu,q,au,by simpa using q1,by simpa using q2⟩
  ·have h11:L 11=false:=by
    cases h:L 11 with
    | false=>rfl
    | true=>have:=hcl 11 _ rfl h 1 (by decide);rw [this] at hL;cases hL
   obtain rfl:=q1 h11
   simp only [ZB,insVc,load1K,Zah,hI.get (k:=0) (d:=29) (v:=(.pointer (some ⟨w.heap.size,2,none⟩))) (by simp) (hdeps 0 (by decide)),au,l2]
   exact ⟨hI.put 1 30 _ rfl (by simp) rfl,hmu,bu,cu,r.lo,rfl,fun _=>rfl,fun hx=>by simp [h11] at hx⟩
  ·simp only [updO_some,ev_tmp,insVc,faddrK,Nat.zero_add,hI.frm (d:=3) (v:=ptr (w.heap.size+1)) (by simp)]
   exact ⟨hI.put 2 31 _ rfl (by simp) rfl,hmu,bu,cu,q,au,by simpa using q1,by simpa using q2⟩
  ·simp only [ZB,insVc,load1K,Zah,hI.get (k:=2) (d:=31) (v:=(.pointer (some ⟨w.heap.size+1,2,none⟩))) (by simp) (hdeps 2 (by decide)),bu,s2]
   exact ⟨hI.put 3 32 _ rfl (by simp) rfl,hmu,cu,q,au,by simpa using q1,by simpa using q2⟩
  ·simp only [updO_some,insVc]
   refine rawK_min2 (k:=.u64) (k':=.u64) (a:=(r.lo:Int)) (b:=(s.lo:Int)) rfl rfl rfl (by simp only [ev_tmp,hI.get (k:=1) (d:=30) (v:=(.int .u64 (r.lo:Int))) (by simp) (hdeps 1 (by decide))]) (by simp only [ev_tmp,hI.get (k:=3) (d:=32) (v:=(.int .u64 (s.lo:Int))) (by simp) (hdeps 3 (by decide))]) ?_
   exact ⟨hI.put 4 33 _ rfl (by simp) rfl,hmu,bu,cu,q,au,by simpa using q1,by simpa using q2⟩
  ·simp only [updO_some,ev_tmp,insVc,faddrK,Nat.zero_add,hI.frm (d:=2) (v:=ptr w.heap.size) (by simp)]
   exact ⟨hI.put 5 34 _ rfl (by simp) rfl,hmu,bu,cu,q,au,by simpa using q1,by simpa using q2⟩
  ·simp only [ZB,insVc,load1K,Zah,hI.get (k:=5) (d:=34) (v:=(.pointer (some ⟨w.heap.size,3,none⟩))) (by simp) (hdeps 5 (by decide)),au,l3,hh]
   exact ⟨hI.put 6 35 _ rfl (by simp) rfl,hmu,bu,cu,q,rfl,by simpa using q1,by simpa using q2⟩
  ·simp only [updO_some,ev_tmp,insVc,faddrK,Nat.zero_add,hI.frm (d:=3) (v:=ptr (w.heap.size+1)) (by simp)]
   exact ⟨hI.put 7 36 _ rfl (by simp) rfl,hmu,bu,cu,q,au,by simpa using q1,by simpa using q2⟩
  ·simp only [ZB,insVc,load1K,Zah,hI.get (k:=7) (d:=36) (v:=(.pointer (some ⟨w.heap.size+1,3,none⟩))) (by simp) (hdeps 7 (by decide)),bu,s3]
   exact ⟨hI.put 8 37 _ rfl (by simp) rfl,hmu,cu,q,au,by simpa using q1,by simpa using q2⟩
  ·simp only [updO_some,insVc]
   refine rawK_max (k:=.u64) (k':=.u64) (a:=(r.hi:Int)) (b:=(s.hi:Int)) rfl rfl rfl (by simp only [ev_tmp,hI.get (k:=6) (d:=35) (v:=(.int .u64 (r.hi:Int))) (by simp) (hdeps 6 (by decide))]) (by simp only [ev_tmp,hI.get (k:=8) (d:=37) (v:=(.int .u64 (s.hi:Int))) (by simp) (hdeps 8 (by decide))]) ?_
   exact ⟨hI.put 9 38 _ rfl (by simp) rfl,hmu,bu,cu,q,au,by simpa using q1,by simpa using q2⟩
  ·simp only [updO_some,ev_tmp,insVc,faddrK,Nat.zero_add,hI.frm (d:=2) (v:=ptr w.heap.size) (by simp)]
   exact ⟨hI.put 10 39 _ rfl (by simp) rfl,hmu,bu,cu,q,au,by simpa using q1,by simpa using q2⟩
  ·simp only [ZB,insVc,storeK,isPlain,Nat.reduceLT,Nat.reduceLeDiff,reduceCtorEq,Zai,Zal,Zaf,get_set,Zba,Nat.reduceLT,Zaz,false_and,hI.get (k:=10) (d:=39) (v:=(.pointer (some ⟨w.heap.size,2,none⟩))) (by simp) (hdeps 10 (by decide)),hI.get (k:=4) (d:=33) (v:=(.int .u64 (min (r.lo:Int) s.lo))) (by simp) (hdeps 4 (by decide)),au]
   refine ⟨by simp [Rw.cells],hI.mark 11 rfl,hmu.set (.inl (Nat.le_refl _)), ?_, ?_,min r.lo s.lo, ?_,by simp,by simp⟩
   ·simp only [bu]
   ·simp only [cu]
   ·rw [if_pos (lt_of_get au),mn];rfl
  ·simp only [updO_some,ev_tmp,insVc,faddrK,Nat.zero_add,hI.frm (d:=2) (v:=ptr w.heap.size) (by simp)]
   exact ⟨hI.put 12 40 _ rfl (by simp) rfl,hmu,bu,cu,q,au,by simpa using q1,by simpa using q2⟩
 ·rintro L ρ u x hall ⟨hI,hmu,bu,cu,q,au,q1,q2⟩ hx'
  obtain rfl:=Option.some.inj hx'
  obtain rfl:=q2 (hall 11 (by decide))
  have hdeps:∀k,k<13→L k=true:=hall
  simp only [ZB,insVc,loadNK,storeK,faddrK,isPlain,Nat.reduceLT,Nat.reduceLeDiff,Zai,Zal,get_set,Nat.reduceLT,hI.get (k:=12) (d:=40) (v:=(.pointer (some ⟨w.heap.size,3,none⟩))) (by simp) (hdeps 12 (by decide)),hI.get (k:=9) (d:=38) (v:=(.int .u64 (max (r.hi:Int) s.hi))) (by simp) (hdeps 9 (by decide)),au]
  refine ⟨by simp [Rw.cells], ?_⟩
  have h2:=hI.frm (d:=2) (v:=ptr w.heap.size) (by simp)
  have h3:=hI.frm (d:=3) (v:=ptr (w.heap.size+1)) (by simp)
  have h4:=hI.frm (d:=4) (v:=ptr (w.heap.size+2)) (by simp)
  have hex:=cells_ext s hs
  have hst:(Rw.mk R1.c R1.s (min r.lo s.lo) R1.hi R1.cl).cells.set 3 (.int .u64 (max (r.hi:Int) s.hi))=(Rw.mk R1.c R1.s (min r.lo s.lo) (max r.hi s.hi) R1.cl).cells:=by rw [mx];rfl
  simp only [ZB,insVc,Nat.reduceAdd,Nat.reduceLeDiff,Zaf,Nat.reduceAdd,Zba,Zaz,false_and,h3,bu,hex,hsz,hst]
  have hcl1:R1.cl=r.cl:=by rw [hR1]
  refine vc_loop (fun m ρ ds u=>ds=[]∧ρ 2=ptr w.heap.size∧ρ 4=ptr (w.heap.size+2)∧ρ 42 = .agg (numV s.cl).toArray∧Mod (fun _=>False) w u∧u.heap[w.heap.size+2]? = some (.cells Rw.zero.cells.toArray 42 (0,0)) ∧
   ∃(i:Nat) (cl:List Nat),i+m=65∧ρ 43 = .int .i64 i∧cl.length=65∧u.heap[w.heap.size]? = some (.cells (Rw.mk R1.c R1.s (min r.lo s.lo) (max r.hi s.hi) cl).cells.toArray 42 (0,0)) ∧
    ∀j:Nat,cl[j]? = if j<i then (addL r.cl s.cl)[j]? else r.cl[j]?) 65 ?_ ?_
  ·refine ⟨rfl,by simp only [upd_other,ne_eq,not_false_eq_true,Nat.reduceEqDiff,h2],by simp only [upd_other,ne_eq,not_false_eq_true,Nat.reduceEqDiff,h4],by simp only [upd_same,upd_other,ne_eq,not_false_eq_true,Nat.reduceEqDiff],hmu.set (.inl (Nat.le_refl _)),by simp only [reduceCtorEq,Zaf,get_set,Zba,false_and,cu],0,r.cl,rfl,by simp only [upd_same];rfl,hr.len, ?_,fun j=>by simp⟩
   rw [get_set_same _ _ _ (lt_of_get au),hcl1]
  ·clear hI au bu cu hmu
   rintro m ρ ds u ⟨rfl,h2,h4,h42,hmu,cu,i,cl,him,h43,hcll,au,hcl⟩
   have lu:=lt_of_get au
   have lcu:=lt_of_get cu
   simp only [ZB,insVc,iopK,iopV,reduceCtorEq,h43]
   by_cases hi:(i:Int)<65
   ·obtain ⟨x,hx⟩:∃x,r.cl[i]? = some x:=⟨_,List.getElem?_eq_getElem (by rw [hr.len];omega)⟩
    obtain ⟨y,hy⟩:∃y,s.cl[i]? = some y:=⟨_,List.getElem?_eq_getElem (by rw [hs.len];omega)⟩
    simp only [ZB,insVc,ne_eq,Nat.reduceEqDiff,hi,h43]
    refine rawK_index (v:=.int .u64 (y:Int)) (w':=u) rfl rfl rfl ?_ ?_
    ·simp only [upd_other,ev_tmp,ne_eq,not_false_eq_true,Nat.reduceEqDiff,h42,h43]
     exact run_index_cls _ i (by omega) _ (by rw [List.getElem?_toArray,numV_at,hy];rfl) u
    have hcx:cl[i]? = some x:=by rw [hcl,if_neg (by omega),hx]
    have hld:(Rw.mk R1.c R1.s (min r.lo s.lo) (max r.hi s.hi) cl).cells[4+i]? = some (.int .u64 (x:Int)):=by rw [cells_at,hcx];rfl
    have h0i:(0:Int)≤(i:Int)∧(i:Int)<((65:Nat):Int):=by omega
    simp only [ZB,insVc,load1K,storeK,iopK,iopV,faddrK,iaddrAK,isPlain,ne_eq,Nat.reduceEqDiff,reduceCtorEq,Zah,Zai,Zal,Zaf,Zbj,Zbm,get_set,Zba,Nat.reduceEqDiff,false_and,h2,h4,h42,h43,h0i,au,hld]
    refine ⟨⟨by simp [Rw.cells,numV_len,hcll];omega,by simp⟩,m-1,by omega,hmu.set (.inl (Nat.le_refl _)),cu,i+1,cl.set i ((x+y)%18446744073709551616),by omega, ?_,by rw [List.length_set];exact hcll, ?_, ?_⟩
    ·rw [wrap_i64 _ (by omega)];rfl
    ·rw [if_pos lu,wr,cells_set]
    ·intro j
     have hadd:(addL r.cl s.cl)[i]? = some ((x+y)%18446744073709551616):=by simp [addL,List.getElem?_zipWith,hx,hy]
     rw [List.getElem?_set]
     by_cases hj:i=j
     ·subst hj
      rw [if_pos rfl,if_pos (by omega),if_pos (by omega),hadd]
     ·rw [if_neg hj,hcl j]
      by_cases hji:j<i
      ·rw [if_pos hji,if_pos (by omega)]
      ·rw [if_neg hji,if_neg (by omega)]
   ·have hil:i=65:=by omega
    subst hil
    have hce:cl=addL r.cl s.cl:=by
     apply List.ext_getElem?
     intro j
     rw [hcl j]
     by_cases hj:j<65
     ·rw [if_pos hj]
     ·rw [if_neg hj,List.getElem?_eq_none (by rw [hr.len];omega),List.getElem?_eq_none (by simp [addL,hr.len,hs.len];omega)]
    have hpl:Rw.mk R1.c R1.s (min r.lo s.lo) (max r.hi s.hi) cl=r.plus s:=by
     unfold Rw.plus
     rw [if_neg hs0,if_neg hr0,hce,hR1]
    rw [hpl] at au
    have hpn:(r.plus s).cells.length=69:=by rw [← hpl];simp [Rw.cells,numV_len,hcll]
    have hpz:(r.plus s).cells.toArray.size=69:=by rw [List.size_toArray];exact hpn
    have hpe:(r.plus s).cells.toArray.extract 0 69=(r.plus s).cells.toArray:=by rw [← hpz];exact Array.extract_size
    have hpp:(r.plus s).cells.all isPlain=true:=by simp [Rw.cells,numV,isPlain]
    have se1:setMany Rw.zero.cells.toArray 0 (r.plus s).cells=(r.plus s).cells.toArray:=setMany_all _ _ (by rw [zz,hpn])
    simp only [ZB,endK,resK,resN,packed,insVc,loadNK,storeNK,isPlain,ne_eq,Nat.reduceEqDiff,Nat.reduceLeDiff,Zai,Zad,Zau,Zbb,Nat.reduceEqDiff,hi,h2,h4,au,cu,hpz,hpe,hpp,se1,zl,lcu]
    exact h _ (hmu.set (.inl (by omega)))
end Go.Oct
