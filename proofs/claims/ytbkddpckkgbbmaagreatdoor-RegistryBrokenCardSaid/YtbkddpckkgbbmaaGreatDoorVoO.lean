import Derived.Test.YtbkddpckkgbbmaaGreatDoorVoN
namespace Go.Oct
open Go Go.Vc Go.VrA
set_option maxRecDepth 100000

/-! ### order.Parts -/

def quotedN : Nat → Rd → List UInt8 → ByteArray × Rd
  | 0, r, _ => (e0, r)
  | n + 1, r, acc =>
    if r.2 ≠ 0 then (e0, r) else
    if (number r 1).1 % 256 ≠ 0 then quotedN n (number r 1).2 (acc ++ [UInt8.ofNat ((number r 1).1 % 256)]) else
    if (number (number r 1).2 1).1 % 256 = 255 then quotedN n (number (number r 1).2 1).2 (acc ++ [0]) else
    if (number (number r 1).2 1).1 % 256 = 0 then (⟨acc.toArray⟩, (number (number r 1).2 1).2) else
    quotedN n (fail (number (number r 1).2 1).2 20) acc
def quotedR (r : Rd) : ByteArray × Rd := quotedN (r.1.size + 2) r []

theorem number_one (r : Rd) : (r.2 ≠ 0 → (number r 1).2 = r) ∧ (r.2 = 0 → (number r 1).2.2 = 0 → (number r 1).2.1.size + 1 = r.1.size) := by
  unfold number take
  constructor
  · intro h; rw [if_pos h]
  · intro h
    rw [if_neg (by simpa using h)]
    by_cases h2 : (1 : Int) < 0 ∨ (1 : Int) > r.1.size
    · rw [if_pos h2]; intro h3; cases h3
    · rw [if_neg h2]
      intro _
      simp only [ByteArray.size_extract]
      have : ((1 : Int)).toNat = 1 := rfl
      rw [this]
      omega

theorem IsB.keep2 {w w' : World} {B c b : Nat} {l : List UInt8} (h : IsB w B c l) (hm : Mod (fun k => k = b) w w') (hb : b < B) : IsB w' B c l := by
  have hg : w.grownBy w' (some b) := ⟨hm.os, hm.tape, hm.output, hm.size, fun k hk hne => hm.get k hk (fun e => hne (by rw [e]))⟩
  rcases h with ⟨h1, v, h2, h3, h4⟩ | ⟨h1, v, h2, h3, h4⟩
  · exact .inl ⟨h1, v, hm.keep h2 (by omega), h3.kept hg (.inr fun e => by have := h3.lt b e; omega), h4⟩
  · exact .inr ⟨h1, v, hm.keep h2 (by omega), h3.kept hg (.inr fun e => by have := h3.lt b e; omega), h4⟩

theorem quoted_c (b : Nat) (r : Rd) (w : World) (K : Value → World → Prop) (hb : IsRd w b r) (hs : r.1.size < 2 ^ 40)
    (h : ∀ w', Mod (fun k => k = b) w w' → IsRd w' b (quotedR r).2 → K (.string (quotedR r).1) w') :
    Ok Proofs.Tryz.prog 168 #[ptr b] w K := by
  refine F168.enter (args := [ptr b]) (by simp) ?_
  unfold c168 r168
  have hbl := lt_of_get hb
  simp only [vc_seq, vc_block, vc_ops, vcOps_nil, vcOps_cons, goL_apply, thenQ_normal, updO_some, ev_const, insVc, Value.cells]
  refine vc_loop (fun m ρ ds w' => ds = [] ∧ ρ 0 = ptr b ∧ ρ 3 = ptr w.heap.size ∧ Mod (fun k => k = b) w w' ∧
    ∃ (r' : Rd) (acc : List UInt8), IsRd w' b r' ∧ IsB w' w.heap.size w.heap.size acc ∧ 1 ≤ m ∧ (r'.2 = 0 → r'.1.size + 2 ≤ m) ∧ quotedR r = quotedN m r' acc ∧ acc.length + r'.1.size ≤ r.1.size) (r.1.size + 2) ?_ ?_
  · refine ⟨rfl, by simp only [upd_other, initE_at, ne_eq, not_false_eq_true, reduceCtorEq, Option.getD_some, List.getElem?_cons_zero], by simp only [upd_same], (Mod.refl _ _).alloc _, r, [], ?_, isB_fresh _ _ (get_alloc_new _ _), by omega, fun _ => Nat.le_refl _, rfl, by simp⟩
    unfold IsRd; rw [get_alloc_old _ _ _ hbl]; exact hb
  · rintro m ρ ds w1 ⟨rfl, h0, h3, hm1, r1, acc, hb1, hB1, hm, hmeas, hq, hlen⟩
    obtain ⟨n, rfl⟩ : ∃ n, m = n + 1 := ⟨m - 1, by omega⟩
    have hB := hm1.size
    simp only [vc_seq, vc_ops, vcOps_cons, goL_apply, upd_same, updO_some, ev_tmp, insVc, List.map_cons, List.map_nil, h0]
    refine err_c b r1 w1 _ hb1 ?_
    simp only [vc_cond, vcOps_nil, vcOps_cons, goL_apply, thenQ_normal, upd_same, updO_some, ev_tmp, ev_const, insVc, loadV_some, iopK, iopV, reduceCtorEq, true_and, or_false]
    refine condP_split ?_ ?_
    · intro he
      have he' : r1.2 = 0 := by simpa using he
      have hq1 := hq
      rw [quotedN, if_neg (by simpa using he')] at hq1
      simp only [vc_skip, vc_seq, vc_block, vc_ops, vcOps_cons, goL_apply, thenQ_normal, upd_same, upd_other, updO_some, ev_tmp, insVc, ne_eq, not_false_eq_true, reduceCtorEq, List.map_cons, List.map_nil, h0]
      refine one_c b r1 w1 _ hb1 (by omega) ?_
      intro w2 hm2 hb2
      have hm12 := hm1.trans hm2
      have hB2 := hB1.keep2 hm2 hbl
      have hn1 := number_one r1
      have hn2 := number_one (number r1 1).2
      have hsz1 := number_size r1 1
      have hsz2 := number_size (number r1 1).2 1
      simp only [vc_seq, vc_cond, vc_ops, vcOps_nil, vcOps_cons, goL_apply, thenQ_normal, upd_same, updO_some, ev_tmp, ev_const, insVc, loadV_some, iopK, iopV, reduceCtorEq, true_and, or_false]
      refine condP_split ?_ ?_
      · intro hc
        have hc' : (number r1 1).1 % 256 ≠ 0 := by simp at hc; omega
        rw [if_pos hc'] at hq1
        simp only [vc_seq, vc_ops, vcOps_cons, goL_apply, upd_same, upd_other, updO_some, ev_tmp, insVc, ne_eq, not_false_eq_true, Nat.reduceEqDiff, List.map_cons, List.map_nil, h3]
        have hbyte : (((number r1 1).1 % 256 : Nat) : Int) = ((UInt8.ofNat ((number r1 1).1 % 256)).toNat : Int) := by simp
        rw [hbyte]
        refine wbyte_c w.heap.size w.heap.size acc (UInt8.ofNat ((number r1 1).1 % 256)) w2 _ hB2 (by omega) hm12.size ?_
        intro w3 hm3 hB3
        simp only [vc_exit, vcOps_nil, goL_apply, thenQ_normal, thenQ_exit, blockQ_same, upd_other, updO_some, ne_eq, not_false_eq_true, Nat.reduceEqDiff, reduceCtorEq, true_and, h0, h3]
        have hne0 : (number r1 1).2.2 = 0 := by
          -- a byte was there
          by_cases x : (number r1 1).2.2 = 0
          · exact x
          · exfalso
            have : (number r1 1).1 = 0 := by
              unfold number take at x ⊢
              rw [if_neg (by simpa using he')] at x ⊢
              by_cases h2 : (1 : Int) < 0 ∨ (1 : Int) > r1.1.size
              · rw [if_pos h2]; rfl
              · rw [if_neg h2] at x; exact absurd he' x
            omega
        refine ⟨n, by omega, hm12.then hm3 (fun i hi hk => by omega), (number r1 1).2, _, hm3.keep hb2 (by omega), hB3, ?_, ?_, hq1, ?_⟩
        · have := hmeas he'; omega
        · intro _; have := hn1.2 he' hne0; have := hmeas he'; omega
        · have := hn1.2 he' hne0; simp only [List.length_append, List.length_cons, List.length_nil]; omega
      · intro hc
        have hc' : (number r1 1).1 % 256 = 0 := by simp at hc; omega
        rw [if_neg (by omega)] at hq1
        simp only [vc_skip, vc_seq, vc_ops, vcOps_cons, goL_apply, thenQ_normal, upd_same, upd_other, updO_some, ev_tmp, insVc, ne_eq, not_false_eq_true, reduceCtorEq, List.map_cons, List.map_nil, h0]
        refine one_c b _ w2 _ hb2 (by omega) ?_
        intro w3 hm3 hb3
        have hm13 := hm12.trans hm3
        have hB3 := hB2.keep2 hm3 hbl
        have hmm : ∀ e', (number (number r1 1).2 1).2.2 = 0 ∨ e' = 0 → (number (number r1 1).2 1).2.2 = 0 → (number (number r1 1).2 1).2.1.size + 2 = r1.1.size := by
          intro _ _ hz
          have h1 : (number r1 1).2.2 = 0 := by
            by_cases x : (number r1 1).2.2 = 0
            · exact x
            · rw [hn2.1 x] at hz; exact absurd hz x
          have := hn1.2 he' h1; have := hn2.2 h1 hz; omega
        simp only [vc_seq, vc_cond, vc_block, vc_ops, vcOps_nil, vcOps_cons, goL_apply, thenQ_normal, upd_same, updO_some, ev_tmp, ev_const, insVc, loadV_some, iopK, iopV, reduceCtorEq, true_and, or_false]
        refine condP_split ?_ ?_
        · intro hd
          have hd' : (number (number r1 1).2 1).1 % 256 = 255 := by simp at hd; omega
          rw [if_pos hd'] at hq1
          simp only [vc_ops, vcOps_cons, upd_other, ev_tmp, ev_const, insVc, ne_eq, not_false_eq_true, Nat.reduceEqDiff, List.map_cons, List.map_nil, h3]
          refine wbyte_c w.heap.size w.heap.size acc 0 w3 _ hB3 (by omega) hm13.size ?_
          intro w4 hm4 hB4
          simp only [vcOps_nil, goL_apply, thenQ_normal, blockQ_normal, upd_other, updO_some, ne_eq, not_false_eq_true, Nat.reduceEqDiff, reduceCtorEq, true_and, h0, h3]
          have hne0 : (number (number r1 1).2 1).2.2 = 0 := by
            by_cases x : (number (number r1 1).2 1).2.2 = 0
            · exact x
            · exfalso
              have : (number (number r1 1).2 1).1 = 0 := by
                generalize (number r1 1).2 = rr at *
                unfold number take at x ⊢
                by_cases hrr : rr.2 ≠ 0
                · rw [if_pos hrr]; rfl
                · rw [if_neg hrr] at x ⊢
                  by_cases h2 : (1 : Int) < 0 ∨ (1 : Int) > rr.1.size
                  · rw [if_pos h2]; rfl
                  · rw [if_neg h2] at x; exact absurd (by simpa using hrr) x
              omega
          have hsz := hmm 0 (.inr rfl) hne0
          refine ⟨n, by omega, hm13.then hm4 (fun i hi hk => by omega), _, _, hm4.keep hb3 (by omega), hB4, ?_, ?_, hq1, ?_⟩
          · have := hmeas he'; omega
          · intro _; have := hmeas he'; omega
          · simp only [List.length_append, List.length_cons, List.length_nil]; omega
        · intro hd
          have hd' : (number (number r1 1).2 1).1 % 256 ≠ 255 := by simp at hd; omega
          rw [if_neg hd'] at hq1
          simp only [vc_seq, vc_cond, vc_ops, vcOps_nil, vcOps_cons, goL_apply, thenQ_normal, upd_same, upd_other, updO_some, ev_tmp, ev_const, insVc, loadV_some, iopK, iopV, ne_eq, not_false_eq_true, Nat.reduceEqDiff, reduceCtorEq, true_and, or_false]
          refine condP_split ?_ ?_
          · intro hz
            have hz' : (number (number r1 1).2 1).1 % 256 = 0 := by simp at hz; omega
            rw [if_pos hz'] at hq1
            simp only [vc_seq, vc_ops, vcOps_cons, upd_other, ev_tmp, insVc, ne_eq, not_false_eq_true, Nat.reduceEqDiff, List.map_cons, List.map_nil, h3]
            refine bstring_c w.heap.size w.heap.size acc w3 _ hB3 hm13.size ?_
            intro w4 hm4
            simp only [vc_ret, vcOps_nil, vcOps_cons, goL_apply, thenQ_normal, thenQ_ret, blockQ_ret, upd_same, updO_some, ev_tmp, endQ_ret, endK, resK, packed, insVc, List.nil_append]
            rw [hq1] at h
            exact h w4 (hm13.then hm4 (fun i hi hk => by omega)) (hm4.keep hb3 (by omega))
          · intro hz
            have hz' : (number (number r1 1).2 1).1 % 256 ≠ 0 := by simp at hz; omega
            rw [if_neg hz'] at hq1
            simp only [vc_ops, vcOps_cons, goL_apply, upd_same, upd_other, updO_some, ev_tmp, ev_const, insVc, ne_eq, not_false_eq_true, reduceCtorEq, List.map_cons, List.map_nil, h0]
            refine fail_c b _ 20 w3 _ hb3 ?_
            intro w4 v hm4 hb4
            simp only [vcOps_nil, goL_apply, thenQ_normal, blockQ_normal, upd_other, updO_some, ne_eq, not_false_eq_true, Nat.reduceEqDiff, reduceCtorEq, true_and, h0, h3]
            have hf := fail_size (number (number r1 1).2 1).2 20
            refine ⟨n, by omega, hm13.trans hm4, _, _, hb4, hB3.keep2 hm4 hbl, ?_, ?_, hq1, ?_⟩
            · have := hmeas he'; omega
            · intro hx
              exfalso
              unfold fail at hx
              split at hx
              · cases hx
              · rename_i hy; exact hy hx
            · omega
    · intro he
      have he' : r1.2 ≠ 0 := by simpa using he
      rw [quotedN, if_pos he'] at hq
      simp only [vc_seq, vc_exit, vc_ret, vc_ops, vcOps_nil, vcOps_cons, goL_apply, thenQ_normal, thenQ_exit, blockQ_same, upd_same, updO_some, ev_const, endQ_ret, endK, resK, packed, insVc, List.nil_append]
      rw [hq] at h
      exact h w1 hm1 hb1

end Go.Oct
