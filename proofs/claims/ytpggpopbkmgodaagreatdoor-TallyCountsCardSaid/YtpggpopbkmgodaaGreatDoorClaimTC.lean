/-
  The card of taprootlaw36.TallyCounts: for every list of acts and every share the law's function returns true, and all read as they did; the listed tables hold what the program's text lays; of internal/bytealg.MaxLen it speaks for every value.
-/
import Derived.Test.YtpggpopbkmgodaaGreatDoorClaimTCa
import Derived.Test.YtpggpopbkmgodaaGreatDoorVmF
import Derived.Test.YtpggpopbkmgodaaGreatDoorVnX
set_option linter.unusedSimpArgs false
set_option linter.unusedVariables false
set_option linter.unusedSectionVars false
set_option linter.unnecessarySimpa false
namespace Go.Proofs.YtpggpopbkmgodaaGreatDoor
open Go Go.ChangeShapes Go.WideShapes Go.ChangeAt Go.RowKit
set_option maxRecDepth 100000
def formsL:List (List UInt8):=[[],[113],[110],[98],[98],[120,107,121,109],[110,99,109],[110,105,116],[110,105,116,100],[110,105,116,109],[110],[109],[110],[110,105,99]]
theorem forms_data {H:Type}:(Rows.laid_taproot_command_forms:DataW H) = .agg (formsL.map fun z=>.lit (.string z)):=by rfl
theorem forms_at {W:World} {g:Nat} {cs:Array Value} {n:String} (hg:Tryz.prog.globalNamed n=some g) (h:World.var? Tryz.prog W n=some cs):∃t f,W.heap[g]? = some (.cells cs t f):=by
 unfold World.var? at h
 rw [hg] at h
 simp only [Option.bind_some] at h
 revert h
 cases hh:W.heap[g]? with
 | none=>intro h;simp [hh] at h
 | some o =>
  intro h
  cases o <;> simp [hh] at h
  subst h
  exact ⟨_,_,rfl⟩
theorem forms_of {W:World} (h:laidMetH Tryz.prog Rows.tallyCountsRow.laid W):Go.Oct.Forms W:=by
 rw [MakeChecks.laidMetH_plain _ _ _ (by kernel_rfl)] at h
 obtain ⟨ps,hv,_⟩:=h
 obtain ⟨_,_,_,_,_,q1,_,_,_,_,hv1,_⟩:=hv
 obtain ⟨g,t,cs,fuel,p,q3,hg,hty,hvar,hd,_,_⟩:=hv1
 rw [forms_data] at hd
 have hg':Tryz.prog.globalNamed "taproot/command.forms" = some g:=hg
 have e0:Tryz.prog.globalNamed "taproot/command.forms" = some 2:=by kernel_rfl
 have e1:((Tryz.prog.globalNamed "taproot/command.forms").bind fun g=>(Tryz.prog.globals[g]?).map (·.type))=some 180:=by kernel_rfl
 rw [hg',Option.bind_some,hty] at e1
 obtain rfl:=Option.some.inj e1
 rw [hg'] at e0
 obtain rfl:=Option.some.inj e0
 have hc:=Go.Oct.cells_of_strs (by kernel_rfl:Tryz.prog.underlying 180=some (.array 14 9)) Tryz.underlying9 (by kernel_rfl) (by kernel_rfl) hd
 have hcs:cs=Go.Oct.frmV:=by
  have e:Go.Oct.frmV.toList=formsL.map fun z=>Value.string ⟨z.toArray⟩:=by rfl
  exact Array.ext' (hc.trans e.symm)
 rw [hcs] at hvar
 exact forms_at hg hvar
theorem tallyCounts_lifted (os:Os) (started:os.Started) (H:Type) (enc:TypeId × Value→H) :
  ReturnsInHanded {} Tryz.checked os 6 .any (fun w args=>(Rows.tallyCountsSpec.pre enc Tryz.prog Tryz.f6 [] false w args∧laidMetH Tryz.prog Rows.tallyCountsRow.laid w)∧sizedMet enc Tryz.prog Tryz.f6 (OpenSpec.ofChange Rows.tallyCountsSpec) false w args)
   (Rows.tallyCountsSpec.post enc Tryz.prog Tryz.f6 false true false false):=by
 refine shaped_and (C:=Tryz.checked) (X:=fun w _=>laidMetH Tryz.prog Rows.tallyCountsRow.laid w) (fun _ _ _ hh h=>h.of_heap hh) Tryz.own started (by kernel_rfl) Tryz.func6
  (ChangeSpec.witness_shaped (enc:=enc) (C:=Tryz.checked) (os:=os) (X:=fun w _=>laidMetH Tryz.prog Rows.tallyCountsRow.laid w) false (World.laidAll Tryz.prog os Rows.tallyCountsRow.laid) #[.slice none 0 0,.int .u64 0,.int .u64 0] 8 (World.laidAll_os _ _ _)
   (World.shaped_of_ZipB (by kernel_rfl) (by kernel_rfl)) (by kernel_rfl) (by kernel_rfl) (by kernel_rfl)
   (by rw [MakeChecks.laidMetH_plain _ _ _ (by kernel_rfl)];exact laidMet_laidAll _ (by kernel_rfl) (by kernel_rfl))) ?_
 intro W base args ds gs before hval0 hW hX hsh
 have hval:∀(j:Nat) t v,Tryz.f6.params[j]? = some t→args[j]? = some v→Value.okWide Tryz.prog W .any base t v:=hval0
 have hW':=hW
 obtain ⟨p,q,hA0,hV,rfl,_,_⟩:=hW
 have hA:DataW.TrodAll enc Tryz.prog W 0 (fun _=>true) true Tryz.f6.params.toList args.toList ds p:=hA0
 rw [Tryz.params6] at hA hval
 obtain ⟨v0,v1,v2,d0,d1,d2,p0,p1,p2,rfl,rfl,rfl,h0,h1,h2⟩:=trodAll_three hA
 obtain ⟨rfl,rfl⟩:=trodVars_none hV
 obtain ⟨m,hm⟩:=cell_of_shapedOpen_int (P:=Tryz.prog) (g:=3) (t:=3) (zero:=#[.int .i64 0]) hsh (of_decide_eq_true (by kernel_rfl)) (by kernel_rfl) rfl (by kernel_rfl) (by kernel_rfl) Tryz.underlying3
 obtain ⟨n1,rfl,rfl,rfl,w1⟩:=open_int Tryz.underlying27 (hval 1 27 v1 rfl rfl) h1
 obtain ⟨n2,rfl,rfl,rfl,w2⟩:=open_int Tryz.underlying27 (hval 2 27 v2 rfl rfl) h2
 obtain ⟨k1,rfl,b1⟩:=Go.Oct.wf_u64 w1
 obtain ⟨k2,rfl,b2⟩:=Go.Oct.wf_u64 w2
 obtain ⟨a0,len,cap,rfl⟩:=okWide_slice (by kernel_rfl:Tryz.prog.underlying 22=some (.slice 29)) (hval 0 22 v0 rfl rfl)
 obtain ⟨l,hT,hl,_⟩:∃l:List Go.Tal.Ac,Go.Vc.IsT Go.Oct.acCells 2 W (.slice a0 len cap) l∧(∀y∈l,y.2<18446744073709551616∧y.1.length≤maxLen)∧l.length≤maxLen:=by
  obtain ⟨fuel,hf⟩:=id h0
  exact Go.Vc.slice_T Go.Oct.acCells (fun y:Go.Tal.Ac=>y.2<18446744073709551616∧y.1.length≤maxLen) 2 (by decide) (by kernel_rfl:Tryz.prog.underlying 22=some (.slice 29)) (by kernel_rfl) Go.Oct.trod_tact hf
 have hk:Go.Vc.Ok Tryz.prog 6 #[.slice a0 len cap,.int .u64 k1,.int .u64 k2] W (fun v W'=>v = .bool true∧Go.Vc.Mod (fun _=>False) W W') :=
  Go.Oct.counts_c l (.slice a0 len cap) k1 k2 m W _ hm (forms_of hX) hT (fun a ha=>(hl a ha).1) (fun a ha=>(hl a ha).2) b1 b2 (fun w' hw=>⟨rfl,hw⟩)
 have hlt0:∀x∈p0,x.block<W.heap.size:=fun x hx=>by simpa using hW'.lt x (by simp [hx])
 refine (callsIn_wide.1 hk.2).mono ?_
 rintro e W' ⟨v,rfl,rfl,hmod⟩
 have hb:=hmod.below
 exact ⟨_,rfl,_,_,_,[],p0 ++ ([] ++ []),[],hW',trodAll_mk1 (shut_bool Tryz.underlying4 _),
  trodAll_mk3 (Below.trod Tryz.laidOut (by kernel_rfl) (of_decide_eq_true (by kernel_rfl)) h0 hb hlt0) (shut_int Tryz.underlying27 w1) (shut_int Tryz.underlying27 w2),rfl,hb.frame _,fun h=>by cases h⟩
theorem tallyCounts_holds:Rows.TallyCountsSaid :=
 OpenClaim.holds_of_wide 6 Tryz.f6 rfl rfl rfl rfl rfl rfl rfl ⟨rfl,rfl,rfl,rfl,rfl⟩ rfl rfl rfl rfl rfl tc_func Tryz.func6 tc_closed
  tc_instance tc_wrapper
  (fun os started H enc _=>tallyCounts_lifted os started H enc)
theorem tallyCounts_card_holds:Rows.TallyCountsCardSaid :=
 Claim7.holds_tied_plain_at .later [] [.data,.data,.pinned] true (true,"c8bf313fa9f288196b36eee2dd721b0fa52b64a9da87e2fff002dcd1b251894e") false tallyCounts_holds (fun _ h=>by cases h) tc_wf (fun _ h=>by cases h) tallyCounts_row_tie rfl ⟨rfl,rfl⟩ tc_main rfl
  (fun f fn hf hfn=>by
   obtain rfl:f=6:=Option.some.inj (tc_func.symm.trans hf) |>.symm
   obtain rfl:fn=Tryz.f6:=(Option.some.inj (Tryz.func6.symm.trans hfn)).symm
   exact ⟨tc_looks,fun j t ht=>by
    rw [Tryz.params6] at ht
    have hm:t ∈ [22,27]:=by simpa using Array.mem_of_getElem? ht
    exact (show Tryz.prog.wantsStandIn t=false by simpa using List.all_eq_true.1 tc_standIns t hm)⟩)
  tc_goes
#print axioms tallyCounts_card_holds
end Go.Proofs.YtpggpopbkmgodaaGreatDoor
