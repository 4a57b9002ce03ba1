/-
  The card of taprootlaw21.RegistryFails: for every script of calls, call and count the law's function returns true, and all read as it did; the listed tables hold what the program's text lays; of internal/bytealg.MaxLen it speaks for every value.
-/
import Derived.Test.YtbkddpckkgbbmaaGreatDoorKitA
import Derived.Test.YtbkddpckkgbbmaaGreatDoorVtD
import Derived.Test.YtbkddpckkgbbmaaGreatDoorVhA
set_option linter.unusedSimpArgs false
set_option linter.unusedVariables false
set_option linter.unusedSectionVars false
set_option linter.unnecessarySimpa false
namespace Go.Proofs.YtbkddpckkgbbmaaGreatDoor
open Go Go.ChangeShapes Go.WideShapes Go.ChangeAt Go.RowKit
open Go.ChangeMaps (open_string shut_string)
set_option maxRecDepth 100000
theorem registryFails_lifted (os : Os) (started : os.Started) (H : Type) (enc : TypeId × Value→H) :
    ReturnsInHanded {} Tryz.checked os 5 .any (fun w args=>(Rows.registryFailsSpec.pre enc Tryz.prog Tryz.f5 [] false w args∧laidMetH Tryz.prog Rows.registryFailsRow.laid w)∧sizedMet enc Tryz.prog Tryz.f5 (OpenSpec.ofChange Rows.registryFailsSpec) false w args)
      (Rows.registryFailsSpec.post enc Tryz.prog Tryz.f5 false true false false):=by
  refine shaped_and (C:=Tryz.checked) (X:=fun w _=>laidMetH Tryz.prog Rows.registryFailsRow.laid w) (fun _ _ _ hh h=>h.of_heap hh) Tryz.own started (by kernel_rfl) Tryz.func5
    (ChangeSpec.witness_shaped (enc:=enc) (C:=Tryz.checked) (os:=os) (X:=fun w _=>laidMetH Tryz.prog Rows.registryFailsRow.laid w) false (World.laidAll Tryz.prog os Rows.registryFailsRow.laid) #[.slice none 0 0,.agg #[.int .i64 0,.string ⟨#[]⟩,.int .u32 0,.int .u64 0,.int .u32 0,.string ⟨#[]⟩,.string ⟨#[]⟩,.int .i64 0,.string ⟨#[]⟩,.string ⟨#[]⟩],.int .u8 0] 8 (World.laidAll_os _ _ _)
      (World.shaped_of_ZipB (by kernel_rfl) (by kernel_rfl)) (by kernel_rfl) (by kernel_rfl) (by kernel_rfl)
      (by rw [MakeChecks.laidMetH_plain _ _ _ (by kernel_rfl)]; exact laidMet_laidAll _ (by kernel_rfl) (by kernel_rfl))) ?_
  intro W base args ds gs before hval0 hW _ hsh
  have hval : ∀ (j : Nat) t v,Tryz.f5.params[j]? = some t→args[j]? = some v→Value.okWide Tryz.prog W .any base t v:=hval0
  have hW':=hW
  obtain ⟨p,q,hA0,hV,rfl,_,_⟩:=hW
  have hA : DataW.TrodAll enc Tryz.prog W 0 (fun _=>true) true Tryz.f5.params.toList args.toList ds p:=hA0
  rw [Tryz.params5] at hA hval
  obtain ⟨v0,v1,v2,d0,d1,d2,p0,p1,p2,rfl,rfl,rfl,h0,h1,h2⟩:=trodAll_three hA
  obtain ⟨rfl,rfl⟩:=trodVars_none hV
  obtain ⟨m,hm⟩:=cell_of_shapedOpen_int (P:=Tryz.prog) (g:=0) (t:=3) (zero:=#[.int .i64 0]) hsh (of_decide_eq_true (by kernel_rfl)) (by kernel_rfl) rfl (by kernel_rfl) (by kernel_rfl) Tryz.underlying3
  obtain ⟨n2,rfl,rfl,rfl,w2⟩:=open_int Tryz.underlying5 (hval 2 5 v2 rfl rfl) h2
  obtain ⟨k2,rfl,b2⟩:=Go.Oct.wf_u8 w2
  obtain ⟨c1,rfl,_⟩:=okWide_struct (by kernel_rfl : Tryz.prog.underlying 66 = some (.struct (Tryz.prog.fieldsOf 66))) (hval 1 66 v1 rfl rfl)
  obtain ⟨x1,hx,hx1,hx2⟩ : ∃ a : Go.Oct.Ag,c1.toList = a.cells∧((a.q.most < 2 ^ 32∧a.q.ttl < 2 ^ 64∧a.q.tries < 2 ^ 32)∧a.b.inI)∧a.szs maxLen:=by
    obtain ⟨fuel,hf⟩:=id h1
    exact Go.Oct.trod_ag _ _ _ hf
  have hxv : c1 = x1.cells.toArray:=by rw [← hx]
  subst hxv
  obtain ⟨a0,len,cap,rfl⟩:=okWide_slice (by kernel_rfl : Tryz.prog.underlying 62 = some (.slice 66)) (hval 0 62 v0 rfl rfl)
  obtain ⟨l,rfl,hl,_,hlc,hcm,hat⟩ : ∃ l : List Go.Oct.Ag,len = l.length∧(∀ a ∈ l,(((a.q.most < 2 ^ 32∧a.q.ttl < 2 ^ 64∧a.q.tries < 2 ^ 32)∧a.b.inI)∧a.szs maxLen))∧(a0 = none→len = 0∧cap = 0)∧len≤cap∧cap≤maxLen ∧
      ∀ (i : Nat) v,l[i]? = some v→∃ b o cur t f,a0 = some ⟨b,o,none⟩∧W.heap[b]? = some (.cells cur t f)∧o + i * 10 + 10≤cur.size∧cur.extract (o + i * 10) (o + i * 10 + 10) = (Go.Oct.Ag.cells v).toArray:=by
    obtain ⟨fuel,hf⟩:=id h0
    exact Go.Vc.slice_list Go.Oct.Ag.cells _ 10 (by decide) (by kernel_rfl : Tryz.prog.underlying 62 = some (.slice 66)) (by kernel_rfl) Go.Oct.trod_ag hf
  have hbx : Go.Oct.IsAgs W (.slice a0 l.length cap) l:=⟨⟨_,_,rfl⟩,fun i v hv=>by
    obtain ⟨b,o,cur,t,f,rfl,hb,hsz,hex⟩:=hat i v hv
    exact ⟨b,o,cap,cur,t,f,rfl,hb,hsz,hex⟩⟩
  have hk : Go.Vc.Ok Tryz.prog 5 #[.slice a0 l.length cap,x1.val,.int .u8 k2] W (fun v W'=>v = .bool true∧Go.Vc.Mod (fun _=>False) W W') :=
    Go.Oct.fails21_c l x1 k2 (.slice a0 l.length cap) m W _ hm hbx (by have : maxLen = 9223372036854775807:=rfl; omega) (fun a ha=>(hl a ha).1) (fun a ha=>(hl a ha).2) hx1 hx2 b2 (fun w' hw=>⟨rfl,hw⟩)
  have hlt0 : ∀ x ∈ p0,x.block < W.heap.size:=fun x hx=>by simpa using hW'.lt x (by simp [hx])
  have hlt1 : ∀ x ∈ p1,x.block < W.heap.size:=fun x hx=>by simpa using hW'.lt x (by simp [hx])
  refine (callsIn_wide.1 hk.2).mono ?_
  rintro e W' ⟨v,rfl,rfl,hmod⟩
  have hb:=hmod.below
  exact ⟨_,rfl,_,_,_,[],p0 ++ (p1 ++ []),[],hW',trodAll_mk1 (shut_bool Tryz.underlying4 _),
    trodAll_mk3 (Below.trod Tryz.laidOut (by kernel_rfl) (of_decide_eq_true (by kernel_rfl)) h0 hb hlt0) (Below.trod Tryz.laidOut (by kernel_rfl) (of_decide_eq_true (by kernel_rfl)) h1 hb hlt1) (shut_int Tryz.underlying5 w2),rfl,hb.frame _,fun h=>by cases h⟩
theorem registryFails_holds : Rows.RegistryFailsSaid :=
  OpenClaim.holds_of_wide 5 Tryz.f5 rfl rfl rfl rfl rfl rfl rfl ⟨rfl,rfl,rfl,rfl,rfl⟩ rfl rfl rfl rfl rfl (by kernel_rfl) Tryz.func5 (by kernel_rfl)
    (of_decide_eq_true (by kernel_rfl)) (by unfold Func.isWrapper; first | (rw [if_pos (by decide +kernel)]; kernel_rfl) | (rw [if_neg (by decide +kernel)]; exact ⟨rfl,rfl⟩))
    (fun os started H enc _=>registryFails_lifted os started H enc)
theorem registryFails_card_holds : Rows.RegistryFailsCardSaid :=
  Claim7.holds_tied_plain_at .later [] [.data,.pinned] true (true,"246cd41ad2a9ceb12c06a4759cbd6c365e8c9c386bd35b4f665a6107fa427223") false registryFails_holds (fun _ h=>by cases h) (by kernel_rfl) (fun _ h=>by cases h) registryFails_row_tie rfl ⟨rfl,rfl⟩ (by kernel_rfl) rfl
    (fun f fn hf hfn=>by
      obtain rfl : f = 5:=Option.some.inj ((show Tryz.prog.funcNamed "taproot/taprootlaw21.RegistryFails" = some 5 by kernel_rfl).symm.trans hf) |>.symm
      obtain rfl : fn = Tryz.f5:=(Option.some.inj (Tryz.func5.symm.trans hfn)).symm
      exact ⟨by kernel_rfl,fun j t ht=>by
        rw [Tryz.params5] at ht
        have hm : t ∈ [62,66,5]:=by simpa using Array.mem_of_getElem? ht
        have hall : ([62,66,5].all fun u => !Tryz.prog.wantsStandIn u) = true:=by kernel_rfl
        exact (show Tryz.prog.wantsStandIn t = false by simpa using List.all_eq_true.1 hall t hm)⟩)
    (by kernel_rfl)
#print axioms registryFails_card_holds
end Go.Proofs.YtbkddpckkgbbmaaGreatDoor
