import Derived.Test.YtbkddpckkgbbmaaGreatDoorVpI
import Derived.Test.YtbkddpckkgbbmaaGreatDoorVsPut
import Derived.Test.YtbkddpckkgbbmaaGreatDoorVrC
set_option linter.unusedSimpArgs false
set_option linter.unusedVariables false
set_option linter.unusedSectionVars false
set_option linter.unnecessarySimpa false
namespace Go.Oct
open Go Go.Vc Go.VrA Go.VrB Go.VrC
set_option maxRecDepth 100000
def cellsDn (n i : Nat) : List Value:=(List.range 8).map fun j=>.int .u8 (if i≤j then ((byteN n j).toNat : Int) else 0)
theorem cellsDn_set (n i : Nat) : (cellsDn n (i + 1)).set i (.int .u8 ((byteN n i).toNat : Int)) = cellsDn n i:=by
  apply List.ext_getElem?
  intro k
  rw [List.getElem?_set]
  simp only [cellsDn,List.getElem?_map,List.length_map,List.length_range]
  by_cases hk : k < 8
  · simp only [List.getElem?_range hk,Zbk]
    by_cases e : i = k
    · subst e; simp [hk]
    · rw [if_neg e]
      by_cases h1 : i≤k
      · simp [h1,show i + 1≤k by omega]
      · simp [h1,show ¬ i + 1≤k by omega]
  · have : (List.range 8)[k]? = none:=by simp; omega
    simp [this]
    omega
theorem cellsDn_zero (n : Nat) : cellsDn n 0 = cellsAt n 8:=by
  unfold cellsDn cellsAt
  refine List.map_congr_left ?_
  intro j hj
  simp only [List.mem_range] at hj
  simp [hj]
theorem rbig_c (n k : Nat) (w : World) (K : Value→World→Prop) (hn : n < 2 ^ 64) (hk1 : 1≤k) (hk : k≤8)
    (h : ∀ w',Mod (fun _=>False) w w'→K (.string (big n k)) w') :
    Ok Proofs.Tryz.prog 215 #[.int .u64 n,.int .i64 k] w K:=by
  refine F215.enter (args:=[.int .u64 n,.int .i64 k]) (by simp) ?_
  unfold c215 r215
  simp only [ZB,insVc,Value.cells]
  refine vc_loop (fun m ρ ds w'=>ds = []∧m≤8∧ρ 0 = .int .u64 (n / 2 ^ (8 * (8 - m)) : Nat)∧ρ 1 = .int .i64 k∧ρ 5 = ptr w.heap.size∧Mod (fun _=>False) w w'∧ρ 6 = .int .i64 ((m : Int) - 1)∧w'.heap[w.heap.size]? = some (.cells (cellsDn n m).toArray 288 (0,0))) 8 ?_ ?_
  · exact ⟨rfl,Nat.le_refl _,by simp only [ZB,ne_eq,reduceCtorEq,Zab,Za,Nat.reduceMul,Nat.reduceSub]; simp,by simp only [ZB,ne_eq,Nat.reduceEqDiff,Zab,Za,Zaf],by simp only [ZB,ne_eq,Nat.reduceEqDiff],(Mod.refl _ _).alloc _,by simp only [ZB]; rfl,get_alloc_new _ _⟩
  · rintro m ρ ds w' ⟨rfl,hm8,h0,h1,h5,hm,h6,hb⟩
    simp only [ZB,insVc,iopK,iopV,reduceCtorEq,h6]
    cases m with
    | zero =>
      have hi : ¬ (((0 : Nat) : Int) - 1 ≥ 0):=by decide
      simp only [ZB,insVc,iopK,iopV,boundOf,slAK,ne_eq,Nat.reduceEqDiff,reduceCtorEq,Zbk,Zbn,Zax,Zbh,hi,h1,h5]
      rw [wrap_i64 (8 - (k : Int)) (by omega)]
      refine ⟨by omega, ?_⟩
      have e1 : 8 - (8 - (k : Int)).toNat = k:=by omega
      have hne : ¬ (8 = (8 - (k : Int)).toNat):=by omega
      rw [e1]
      rw [cellsDn_zero] at hb
      refine rawK_conv (v:=.string (big n k)) rfl rfl ?_ ?_
      · simp only [ZB]
        have hl : ((List.range k).map fun i=>UInt8.ofNat (n / 2 ^ (8 * (k - 1 - i)))).length = k:=by simp
        have:=run_convert_bytes_back (P:=Proofs.Tryz.prog) w' 110 9 5 ((⟨w.heap.size,0,none⟩ : Addr).add (8 - (k : Int)).toNat) k ((List.range k).map fun i=>UInt8.ofNat (n / 2 ^ (8 * (k - 1 - i)))) (by kernel_rfl) (by kernel_rfl) (by kernel_rfl) ?_
        · rw [hl] at this; rw [if_neg hne]; exact this
        · intro j hj
          rw [hl] at hj
          have hget : (cellsAt n 8)[(8 - (k : Int)).toNat + j]? = some (.int .u8 ((byteN n ((8 - (k : Int)).toNat + j)).toNat : Int)):=by
            simp only [cellsAt,List.getElem?_map,List.getElem?_range (show (8 - (k : Int)).toNat + j < 8 by omega),Zbk]
            rw [if_pos (by omega)]
          simp only [Addr.add_lit,World.cell?,hb,Nat.zero_add,Zah,hget]
          simp only [byteN,List.getElem_map,List.getElem_range,show 7 - ((8 - (k : Int)).toNat + j) = k - 1 - j by omega]
          rfl
      · simp only [ZB,endK,resK,packed,insVc,Zaa]
        exact h w' hm
    | succ i =>
      have hi : (((i + 1 : Nat) : Int) - 1 ≥ 0):=by omega
      have hsz : i < (cellsDn n (i + 1)).length:=by simp [cellsDn]; omega
      simp only [ZB,insVc,storeK,iopK,iopV,convK,iaddrAK,isPlain,ne_eq,Nat.reduceEqDiff,reduceCtorEq,Zak,Zal,Zag,Int.reduceEq,Zbh,hi,h0,h1,h5,h6,hb]
      have t1 : (((i + 1 : Nat) : Int) - 1).toNat = i:=by omega
      have hi8 : i < 8:=by omega
      have q0 : ((n / 2 ^ (8 * (8 - (i + 1))) : Nat) : Int).tdiv 256 = ((n / 2 ^ (8 * (8 - i)) : Nat) : Int):=by
        have : (256 : Int) = ((256 : Nat) : Int):=rfl
        rw [this,← Int.ofNat_tdiv,Nat.div_div_eq_div_mul,show (256 : Nat) = 2 ^ 8 by decide,← Nat.pow_add,show 8 * (8 - (i + 1)) + 8 = 8 * (8 - i) by omega]
      have q1 : ((n / 2 ^ (8 * (8 - (i + 1))) : Nat) : Int).tmod 256 = ((n / 2 ^ (8 * (8 - (i + 1))) % 256 : Nat) : Int):=by
        have : (256 : Int) = ((256 : Nat) : Int):=rfl
        rw [this,← Int.ofNat_tmod]
      have hle : n / 2 ^ (8 * (8 - i))≤n:=Nat.div_le_self _ _
      have q2 : IntKind.u8.wrap ((n / 2 ^ (8 * (8 - (i + 1))) % 256 : Nat) : Int) = ((byteN n i).toNat : Int):=by
        rw [wrap_u8]
        simp only [byteN,UInt8.toNat_ofNat',show 7 - i = 8 - (i + 1) by omega]
        omega
      rw [t1,q0,q1,q2,wrap_u64 _ (by omega),cellsDn_set]
      refine ⟨by omega,⟨hsz,by simp⟩,i,by omega,by omega,rfl,hm.set (.inl (Nat.le_refl _)), ?_,get_set_same _ _ _ (lt_of_get hb)⟩
      rw [wrap_i64 _ (by omega)]
      congr 1
      omega
theorem rstr_c (s : ByteArray) (w : World) (K : Value→World→Prop) (h : ∀ w',Mod (fun _=>False) w w'→K (str s).val w') :
    Ok Proofs.Tryz.prog 138 #[.string s] w K:=by
  refine F138.enter (args:=[.string s]) (by simp) ?_
  unfold c138 r138
  simp only [ZB,endK,resK,resN,packed,insVc,storeNK,setMany,buildK,fillL,isPlain,Value.cells,ne_eq,Nat.reduceEqDiff,Nat.reduceAdd,Nat.reduceLeDiff,reduceCtorEq,Zab,Za,Zak,Zai,Zaj,Zbc,Zbd,Zba,Zbb,Zal,Zam,Zan,Zaa,Zbf,Zac,Zb,Zaz,Zav,Zar,Zay,Zaw,Zas,Zat,Zau,Zbg,Zbe,Zao,Zbg]
  exact h _ (((Mod.refl _ _).alloc _).set (.inl (Nat.le_refl _)))
theorem rnum_c (n : Nat) (w : World) (K : Value→World→Prop) (h : ∀ w',Mod (fun _=>False) w w'→K (num' n).val w') :
    Ok Proofs.Tryz.prog 139 #[.int .u64 n] w K:=by
  refine F139.enter (args:=[.int .u64 n]) (by simp) ?_
  unfold c139 r139
  simp only [ZB,endK,resK,resN,packed,insVc,storeNK,setMany,buildK,fillL,isPlain,Value.cells,ne_eq,Nat.reduceEqDiff,Nat.reduceAdd,Nat.reduceLeDiff,reduceCtorEq,Zab,Za,Zak,Zai,Zaj,Zbc,Zbd,Zba,Zbb,Zal,Zam,Zan,Zaa,Zbf,Zac,Zb,Zaz,Zav,Zar,Zay,Zaw,Zas,Zat,Zau,Zbg,Zbe,Zao,Zbg]
  exact h _ (((Mod.refl _ _).alloc _).set (.inl (Nat.le_refl _)))
end Go.Oct
namespace Go.Oct
open Go Go.Vc Go.VrA Go.VrB Go.VrC
set_option maxRecDepth 100000
def IsRp (w : World) (v : Value) (l : List Pt) : Prop :=
  ∃ g cap cur,v = .slice (some ⟨g,0,none⟩) l.length cap∧w.heap[g]? = some (.cells cur 234 (0,0))∧cur.toList.take (l.length * 3) = l.flatMap Pt.cells
theorem rp_cells {cur : Array Value} {l : List Pt} (h : cur.toList.take (l.length * 3) = l.flatMap Pt.cells) {i : Nat} {p : Pt} (hp : l[i]? = some p) : i * 3 + 3≤cur.size∧cur.extract (i * 3) (i * 3 + 3) = p.cells.toArray:=by
  have h' : (cur.toList.drop 0).take (l.length * 3) = l.flatMap Pt.cells:=by simpa using h
  have:=row_at (s:=3) (cells:=Pt.cells) (fun _=>rfl) h' (j:=i) (p:=p) hp (by decide)
  simpa using this
theorem mkA (a b : List UInt8) : (⟨a.toArray⟩ : ByteArray) ++ ⟨b.toArray⟩ = ⟨(a ++ b).toArray⟩:=by
  apply ByteArray.ext
  apply Array.ext'
  simp [ByteArray.data_append]
theorem esc_snoc (s : List UInt8) (c : UInt8) : esc (s ++ [c]) = esc s ++ (if c = 0 then [0,255] else [c]):=by simp [esc]
theorem rkey_c (l : List Pt) (v : Value) (w : World) (K : Value→World→Prop) (hv : IsRp w v l) (hl : l.length < 2 ^ 20) (hp : ∀ p ∈ l,p.good)
    (h : ∀ w',Mod (fun _=>False) w w'→K (.tuple #[.string (keyL l []).1,.int .i64 (keyL l []).2]) w') :
    Ok Proofs.Tryz.prog 188 #[v] w K:=by
  obtain ⟨g,cap,cur,rfl,hg,hcur⟩:=hv
  refine F188.enter (args:=[.slice (some ⟨g,0,none⟩) l.length cap]) (by simp) ?_
  unfold c188 r188
  simp only [ZB,insVc,lenLK,ne_eq,reduceCtorEq,Zab,Za]
  refine vc_loop (fun mm ρ ds u => ∃ i,∃ acc : List UInt8,i≤l.length∧mm = l.length - i∧ds = []∧ρ 4 = .string ⟨acc.toArray⟩∧ρ 8 = .slice (some ⟨g,0,none⟩) l.length cap∧ρ 9 = .int .i64 l.length∧ρ 10 = .int .i64 i ∧
    Mod (fun _=>False) w u∧acc.length≤255∧keyL l [] = keyL (l.drop i) acc) (l.length - 0) ?_ ?_
  · exact ⟨0,[],Nat.zero_le _,rfl,rfl,by simp only [ZB,ne_eq,Nat.reduceEqDiff],by simp only [ZB,ne_eq,Nat.reduceEqDiff],by simp only [ZB,ne_eq,Nat.reduceEqDiff],by simp only [ZB]; rfl,Mod.refl _ _,by simp,by simp⟩
  · rintro mm ρ ds u ⟨i,acc,hi,rfl,rfl,h4,h8,h9,h10,hmu,hacc,hk⟩
    simp only [ZB,insVc,iopK,iopV,reduceCtorEq,h9,h10]
    refine condP_split ?_ ?_
    · intro hc
      have hlt : i < l.length:=by have:=of_decide_eq_true hc; omega
      obtain ⟨p,hpi⟩ : ∃ p,l[i]? = some p:=⟨l[i],List.getElem?_eq_getElem hlt⟩
      have hpg:=hp p (List.mem_of_getElem? hpi)
      obtain ⟨hsz,hex⟩:=rp_cells hcur hpi
      have hgu:=hmu.keep hg id
      have hdrop : l.drop i = p :: l.drop (i + 1):=List.drop_eq_getElem?_toList_append.trans (by rw [hpi]; rfl)
      have hkey : keyL l [] = if (acc ++ p.bytes).length > 255 then (e0,5) else keyL (l.drop (i + 1)) (acc ++ p.bytes):=by rw [hk,hdrop]; rfl
      have hi0 : (0 : Int)≤(i : Int)∧(i : Int) < ((l.length : Nat) : Int):=by omega
      have hwr : IntKind.i64.wrap ((i : Int) + 1) = ((i + 1 : Nat) : Int):=by rw [wrap_i64 _ (by omega)]; omega
      simp only [ZB,insVc,load1K,loadNK,storeNK,setMany,notK,faddrK,iaddrK,isPlain,Value.cells,ne_eq,Nat.reduceEqDiff,Nat.reduceAdd,Nat.reduceLeDiff,Za,Zah,Zak,Zai,Zaj,Zal,Zam,Zan,Zax,Zas,Zat,Zau,Zbg,Zbe,Zao,h8,h10,hi0,hgu,hsz,hex,Pt.cells]
      refine condP_gen ?_
      intro w5 hw5
      have hm5 : Mod (fun _=>False) u w5:=by rw [hw5]; exact ((Mod.refl _ _).alloc _).set (.inl (Nat.le_refl _))
      have p5 : w5.heap[u.heap.size]? = some (.cells #[.bool p.t,.int .u64 p.n,.string p.s] 234 (0,0)):=by rw [hw5]; simp only [size_alloc,Zbe,Zao,size_alloc]
      clear hw5
      have hm05:=hmu.trans hm5
      have hesc : (esc p.s.data.toList).length≤2 * p.s.size:=esc_length _
      have hsz0 : ∀ a : List UInt8,(⟨a.toArray⟩ : ByteArray).size = a.length:=fun a=>by simp [ByteArray.size]
      cases hpt : p.t with
      | false =>
        rw [hpt] at p5
        have hb : p.bytes = [1] ++ bigL p.n 8:=by rw [Pt.bytes_num hpt]; rfl
        rw [hb,← List.append_assoc] at hkey
        simp only [ZB]
        refine draw_d (fun W=>W.heap[u.heap.size]? = some (.cells #[.bool false,.int .u64 p.n,.string p.s] 234 (0,0))) (by kernel_rfl) (by kernel_rfl) (by kernel_rfl) (by kernel_rfl) p5 ?_
        simp only [ZB,insVc,iopK,iopV,sopK,sopV,faddrK,lenSK,ne_eq,Nat.reduceEqDiff,reduceCtorEq,Zad,Zae,Zac,Zag,pureI,vcD_nil,vcD_cons,stepD_pure,stepD_load,stepD_step,kindI,loadI,h4]
        refine rbig_c 1 1 w5.drew _ (by decide) (by decide) (by decide) ?_
        intro w6 hm6
        have p6:=hm6.keep (show w5.drew.heap[u.heap.size]? = _ from p5) id
        refine ⟨p6, ?_⟩
        have y1 : ¬ ((((⟨acc.toArray⟩ : ByteArray).size + (big 1 1).size : Nat) : Int) > IntKind.i64.max):=by rw [hsz0,big_size]; simp only [imax]; omega
        have y2 : (⟨acc.toArray⟩ : ByteArray) ++ big 1 1 = ⟨(acc ++ [1]).toArray⟩:=mkA acc [1]
        simp only [loadV_some,Zag,y1,y2]
        refine loadD1 (b:=u.heap.size) (o:=1) (v:=.int .u64 p.n) rfl (fun W hW=>⟨_,_,_,hW,rfl⟩) ?_
        refine rbig_c p.n 8 w6 _ hpg.1 (by decide) (by decide) ?_
        intro w7 hm7
        have p7:=hm7.keep p6 id
        refine ⟨p7, ?_⟩
        have y3 : ¬ ((((⟨(acc ++ [1]).toArray⟩ : ByteArray).size + (big p.n 8).size : Nat) : Int) > IntKind.i64.max):=by rw [hsz0,big_size,List.length_append]; simp only [imax,Zai,Zaj]; omega
        have y4 : (⟨(acc ++ [1]).toArray⟩ : ByteArray) ++ big p.n 8 = ⟨(acc ++ [1] ++ bigL p.n 8).toArray⟩:=mkA (acc ++ [1]) (bigL p.n 8)
        have hm07 : Mod (fun _=>False) w w7:=((hm05.drew).trans hm6).trans hm7
        simp only [loadV_some,Zag,y3,y4]
        simp only [hsz0]
        by_cases hbig : (acc ++ [1] ++ bigL p.n 8).length > 255
        · have y5 : (((acc ++ [1] ++ bigL p.n 8).length : Nat) : Int) > 255:=by omega
          rw [if_pos hbig] at hkey
          rw [hkey] at h
          simp only [ZB,endK,resK,packed,insVc,ne_eq,Nat.reduceEqDiff,Zaa,Zap,y5]
          exact h w7 hm07
        · have y5 : ¬ (((acc ++ [1] ++ bigL p.n 8).length : Nat) : Int) > 255:=by omega
          rw [if_neg hbig] at hkey
          simp only [ZB,insVc,iopK,iopV,ne_eq,Nat.reduceEqDiff,reduceCtorEq,y5,h8,h9,h10,hwr]
          exact ⟨l.length - (i + 1),by omega,i + 1,acc ++ [1] ++ bigL p.n 8,by omega,rfl,rfl,rfl,hm07,by omega,hkey⟩
      | true =>
        rw [hpt] at p5
        have hb : p.bytes = 2 :: (esc p.s.data.toList ++ [0,0]):=Pt.bytes_str hpt
        have hss : p.s.size < 4294967281:=hpg.2
        simp only [ZB,insVc,ne_eq,Nat.reduceEqDiff,Zad,Zae,h4]
        refine rbig_c 2 1 w5 _ (by decide) (by decide) (by decide) ?_
        intro w6 hm6
        have p6:=hm6.keep p5 id
        have hm06:=hm05.trans hm6
        have y1 : ¬ ((((⟨acc.toArray⟩ : ByteArray).size + (big 2 1).size : Nat) : Int) > IntKind.i64.max):=by rw [hsz0,big_size]; simp only [imax]; omega
        have y2 : (⟨acc.toArray⟩ : ByteArray) ++ big 2 1 = ⟨(acc ++ [2]).toArray⟩:=mkA acc [2]
        simp only [ZB,insVc,sopK,sopV,ne_eq,Nat.reduceEqDiff,Zag,y1,y2]
        refine vc_loop (fun mm ρ2 ds2 u2 => ∃ j,j≤p.s.size∧mm = p.s.size - j∧ds2 = []∧ρ2 4 = .string ⟨(acc ++ [2] ++ esc (p.s.data.toList.take j)).toArray⟩∧ρ2 6 = ptr u.heap.size∧ρ2 7 = .int .i64 j∧ρ2 8 = .slice (some ⟨g,0,none⟩) l.length cap∧ρ2 9 = .int .i64 l.length∧ρ2 10 = .int .i64 i ∧
          Mod (fun _=>False) w u2∧u2.heap[u.heap.size]? = some (.cells #[.bool true,.int .u64 p.n,.string p.s] 234 (0,0))) (p.s.size - 0) ?_ ?_
        · refine ⟨0,Nat.zero_le _,rfl,rfl, ?_, ?_, ?_, ?_, ?_, ?_,hm06,p6⟩ <;> simp only [ZB,ne_eq,Nat.reduceEqDiff,Zar,h8,h9,h10]
          · simp [esc]
          · rfl
        · rintro mm ρ2 ds2 u2 ⟨j,hj,rfl,rfl,k4,k6,k7,k8,k9,k10,hm2,p2⟩
          by_cases hjl : j < p.s.size
          · have hjd : j < p.s.data.toList.length:=hjl
            obtain ⟨c,hc'⟩ : ∃ c,p.s.data.toList[j]? = some c:=⟨p.s.data.toList[j],List.getElem?_eq_getElem hjd⟩
            have hcA : p.s.data[j]? = some c:=by rw [← Array.getElem?_toList]; exact hc'
            have htk : p.s.data.toList.take (j + 1) = p.s.data.toList.take j ++ [c]:=by rw [List.take_add_one,hc']; rfl
            have x1 : ((j : Nat) : Int) < ((p.s.size : Nat) : Int):=by omega
            have x2 : IntKind.i64.wrap ((j : Int) + 1) = ((j + 1 : Nat) : Int):=by rw [wrap_i64 _ (by omega)]; omega
            have x3 : (0 : Int)≤(j : Int)∧(j : Int)≤((j + 1 : Nat) : Int)∧((j + 1 : Nat) : Int)≤((p.s.size : Nat) : Int):=by omega
            have x4 : p.s.extract j (j + 1) = ⟨[c].toArray⟩:=by
              apply ByteArray.ext
              rw [ByteArray.data_extract]
              apply Array.ext'
              rw [Array.toList_extract,List.extract_eq_take_drop]
              rw [show j + 1 - j = 1 by omega,List.take_one,List.head?_drop,hc']
              rfl
            have hte : (esc (p.s.data.toList.take j)).length≤2 * j:=by
              have:=esc_length (p.s.data.toList.take j)
              rw [List.length_take] at this
              omega
            have x5 : ¬ ((((⟨(acc ++ [2] ++ esc (p.s.data.toList.take j)).toArray⟩ : ByteArray).size + (⟨[c].toArray⟩ : ByteArray).size : Nat) : Int) > IntKind.i64.max):=by
              rw [hsz0,hsz0]
              simp only [Zby,Zai,Zaj,imax]
              omega
            have x6 : (⟨(acc ++ [2] ++ esc (p.s.data.toList.take j)).toArray⟩ : ByteArray) ++ ⟨[c].toArray⟩ = ⟨(acc ++ [2] ++ esc (p.s.data.toList.take j) ++ [c]).toArray⟩:=mkA _ _
            have x7 : (0 : Int)≤(j : Int):=by omega
            simp only [ZB,insVc,load1K,iopK,iopV,sopK,sopV,faddrK,sidxK,lenSK,boundOf,slSK,ne_eq,Nat.reduceEqDiff,reduceCtorEq,Zbk,Za,Zaf,Zah,Zag,Zax,k4,k6,k7,p2,x1,x2,x3,x4,x5,x6,hcA]
            by_cases hc0 : c = 0
            · subst hc0
              have z1 : (((0 : UInt8).toNat : Int) == 0) = true:=rfl
              have he : acc ++ [2] ++ esc (p.s.data.toList.take (j + 1)) = acc ++ [2] ++ esc (p.s.data.toList.take j) ++ [0] ++ [255]:=by rw [htk,esc_snoc]; simp
              have x8 : ¬ ((((⟨(acc ++ [2] ++ esc (p.s.data.toList.take j) ++ [0]).toArray⟩ : ByteArray).size + (big 255 1).size : Nat) : Int) > IntKind.i64.max):=by
                rw [hsz0,big_size]
                simp only [Zby,Zai,Zaj,imax]
                omega
              have x9 : (⟨(acc ++ [2] ++ esc (p.s.data.toList.take j) ++ [0]).toArray⟩ : ByteArray) ++ big 255 1 = ⟨(acc ++ [2] ++ esc (p.s.data.toList.take j) ++ [0] ++ [255]).toArray⟩:=mkA _ [255]
              simp only [ZB,insVc,ne_eq,Nat.reduceEqDiff,Zad,Zae,z1]
              refine rbig_c 255 1 u2 _ (by decide) (by decide) (by decide) ?_
              intro u3 hm3
              simp only [ZB,insVc,iopK,iopV,sopK,sopV,ne_eq,Nat.reduceEqDiff,reduceCtorEq,Zag,x8,x9,k6,k7,k8,k9,k10,x2]
              refine ⟨p.s.size - (j + 1),by omega,j + 1,by omega,rfl, ?_⟩
              rw [he]
              exact ⟨rfl,rfl,hm2.trans hm3,hm3.keep p2 id⟩
            · have z1 : ((c.toNat : Int) == 0) = false:=by
                rw [beq_eq_false_iff_ne]
                have : c.toNat≠0:=fun x=>hc0 (UInt8.toNat_inj.1 (by simpa using x))
                omega
              have he : acc ++ [2] ++ esc (p.s.data.toList.take (j + 1)) = acc ++ [2] ++ esc (p.s.data.toList.take j) ++ [c]:=by rw [htk,esc_snoc,if_neg hc0]; simp
              simp only [ZB,insVc,iopK,iopV,ne_eq,Nat.reduceEqDiff,reduceCtorEq,z1,k6,k7,k8,k9,k10,x2]
              refine ⟨p.s.size - (j + 1),by omega,j + 1,by omega,rfl, ?_⟩
              rw [he]
              exact ⟨rfl,rfl,hm2,p2⟩
          · have hje : j = p.s.size:=by omega
            subst hje
            have x1 : ¬ ((p.s.size : Nat) : Int) < ((p.s.size : Nat) : Int):=by omega
            have htk : p.s.data.toList.take p.s.size = p.s.data.toList:=List.take_length
            rw [htk] at k4
            simp only [ZB,insVc,load1K,iopK,iopV,faddrK,lenSK,ne_eq,Nat.reduceEqDiff,reduceCtorEq,Zad,Zae,Za,Zaf,Zah,k4,k6,k7,p2,x1]
            refine rbig_c 0 2 u2 _ (by decide) (by decide) (by decide) ?_
            intro u3 hm3
            have hm03:=hm2.trans hm3
            have x8 : ¬ ((((⟨(acc ++ [2] ++ esc p.s.data.toList).toArray⟩ : ByteArray).size + (big 0 2).size : Nat) : Int) > IntKind.i64.max):=by
              rw [hsz0,big_size]
              simp only [Zby,Zai,Zaj,imax]
              omega
            have x9 : (⟨(acc ++ [2] ++ esc p.s.data.toList).toArray⟩ : ByteArray) ++ big 0 2 = ⟨(acc ++ [2] ++ esc p.s.data.toList ++ [0,0]).toArray⟩:=mkA _ [0,0]
            have hbb : acc ++ p.bytes = acc ++ [2] ++ esc p.s.data.toList ++ [0,0]:=by rw [hb]; simp
            rw [hbb] at hkey
            simp only [ZB,insVc,iopK,iopV,sopK,sopV,lenSK,ne_eq,Nat.reduceEqDiff,reduceCtorEq,Zag,x8,x9]
            simp only [hsz0]
            by_cases hbig : (acc ++ [2] ++ esc p.s.data.toList ++ [0,0]).length > 255
            · have y5 : (((acc ++ [2] ++ esc p.s.data.toList ++ [0,0]).length : Nat) : Int) > 255:=by omega
              rw [if_pos hbig] at hkey
              rw [hkey] at h
              simp only [ZB,endK,resK,packed,insVc,ne_eq,Nat.reduceEqDiff,Zaa,Zap,y5]
              exact h u3 hm03
            · have y5 : ¬ (((acc ++ [2] ++ esc p.s.data.toList ++ [0,0]).length : Nat) : Int) > 255:=by omega
              rw [if_neg hbig] at hkey
              simp only [ZB,insVc,iopK,iopV,ne_eq,Nat.reduceEqDiff,reduceCtorEq,y5,k8,k9,k10,hwr]
              exact ⟨l.length - (i + 1),by omega,i + 1,acc ++ [2] ++ esc p.s.data.toList ++ [0,0],by omega,rfl,rfl,rfl,hm03,by omega,hkey⟩
    · intro hc
      have hge : i = l.length:=by have:=of_decide_eq_false hc; omega
      subst hge
      rw [List.drop_length] at hk
      rw [hk] at h
      simp only [ZB,endK,resK,packed,insVc,ne_eq,Nat.reduceEqDiff,Zaa,Zap,h4]
      exact h u hmu
end Go.Oct
namespace Go.Oct
open Go Go.Vc Go.VrA Go.VrB Go.VrC
set_option maxRecDepth 100000
theorem info_rp : (Proofs.Tryz.prog.info? 234).map (fun i=>(i.zero,i.size,i.bytes)) = some (some (.agg #[.bool false,.int .u64 0,.string ⟨#[]⟩]),3,32):=by kernel_rfl
theorem rp_lit (w : World) (l : List Pt) (c : Array Value) (hc : c.toList = l.flatMap Pt.cells) : IsRp (w.alloc (.cells c 234)) (.slice (some ⟨w.heap.size,0,none⟩) l.length l.length) l:=by
  refine ⟨w.heap.size,l.length,c,rfl,get_alloc_new _ _, ?_⟩
  rw [hc,← pts_len]
  exact List.take_length
theorem IsRp.keep {w w' : World} {S : Nat→Prop} {v : Value} {l : List Pt} (h : IsRp w v l) (hm : Mod S w w') (hS : ∀ k,v.ownBlock = some k→¬ S k) : IsRp w' v l:=by
  obtain ⟨g,cap,cur,rfl,hg,hc⟩:=h
  exact ⟨g,cap,cur,rfl,hm.keep hg (hS g rfl),hc⟩
theorem src_rp {w : World} {v : Value} {l : List Pt} (h : IsRp w v l) : Src Proofs.Tryz.prog 3 237 v l.length (l.flatMap Pt.cells) w:=by
  obtain ⟨g,cap,cur,rfl,hg,hcur⟩:=h
  refine Src.ofSlice w (e':=234) (by kernel_rfl) ⟨g,0,none⟩ l.length cap _ (pts_len l) ?_ (pts_one l)
  intro j u hj
  have hjl : j < l.length * 3:=by rw [← pts_len]; exact (List.getElem?_eq_some_iff.1 hj).1
  rw [← hcur,List.getElem?_take,if_pos hjl] at hj
  simpa [World.cell?,hg,Addr.add_lit] using hj
theorem append_rp (B : Nat) (v : Value) (l : List Pt) (m : List Pt) (w : World) (hown : w.ownsRow B 234 3 v l.length (l.flatMap Pt.cells)) (hB : B≤w.heap.size) (hl : l.length + m.length < 2 ^ 20) (hm0 : m≠[]) (hBv : ∀ k,v.ownBlock = some k→k < w.heap.size) (ty : TypeId) :
    ∃ v' w',(Builtin.append_ #[237,237] ty #[v,.slice (some ⟨w.heap.size,0,none⟩) m.length m.length]).run Proofs.Tryz.prog (w.alloc (.cells (m.flatMap Pt.cells).toArray 234)) = .ok v' w' ∧
      IsRp w' v' (l ++ m)∧Mod (fun k=>v.ownBlock = some k) w w':=by
  obtain ⟨i,hi,hi1,hi2⟩:=info_of info_rp
  have hm1 : Mod (fun _=>False) w (w.alloc (.cells (m.flatMap Pt.cells).toArray 234)):=(Mod.refl _ _).alloc _
  have hown1:=own_keep' hown hm1 (fun _ _ x=>x)
  obtain ⟨v',w',hr,ho,hm,_⟩:=run_append_mine (P:=Proofs.Tryz.prog) B 237 237 ty 234 i _ 3 (by kernel_rfl) hi hi1 hi2.1 rfl (by decide) v l.length _ hown1 _ m.length _ (src_rp (rp_lit w m (m.flatMap Pt.cells).toArray (by simp))) (by simp [maxLen]; omega) (by rw [hi2.2]; omega) (Nat.le_trans hB hm1.size)
  refine ⟨v',w',hr, ?_,(hm1.mono fun _ _ x=>x.elim).then hm (fun k _ hk=>hk)⟩
  rcases ho with ⟨_,⟨_,h0⟩ | ⟨g,cap,cur,rfl,_,hg,_,_,_,hc⟩⟩
  · have : m.length≠0:=fun x=>hm0 (List.length_eq_zero_iff.1 x)
    omega
  · refine ⟨g,cap,cur, ?_,hg, ?_⟩
    · rw [List.length_append]
    · rw [List.length_append,hc,List.flatMap_append]
end Go.Oct
