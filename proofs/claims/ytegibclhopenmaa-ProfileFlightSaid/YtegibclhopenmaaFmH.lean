/- cycles.Issues: what it returns, by visits. -/
import Derived.Test.YtegibclhopenmaaFmF
set_option linter.unusedVariables false
set_option linter.unusedSimpArgs false
namespace Go.AM.Ytegibclhopenmaa
open Go Go.AM
set_option maxRecDepth 100000
set_option maxHeartbeats 0
attribute [local congr] kif_congr
/-- the cycle in which a visit begins -/
def iss (bl sc pa : V) : Nat → Int
  | 0 => 1
  | j + 1 => iss bl sc pa j + (if ic pa j 0 = ic pa (j + 1) 0 ∧ SPp bl sc (ic pa (j + 1) 0) then ic sc (ic pa j 0).toNat 0 else ic sc (ic pa j 0).toNat 1)
theorem isF_app {bl sc : V} {A B : List (Int × Nat)} : ∀ s, s ≤ A.length → isF bl sc (A ++ B) s = isF bl sc A s
  | 0, _ => rfl
  | s + 1, h => by
    have ih := isF_app (bl := bl) (sc := sc) (A := A) (B := B) s (by omega)
    have hx : (A ++ B).getD s (0, 0) = A.getD s (0, 0) := by
      rw [List.getD_eq_getElem?_getD, List.getD_eq_getElem?_getD, List.getElem?_append_left (by omega)]
    simp only [isF, ih, hx]
theorem isF_snoc {bl sc : V} {A : List (Int × Nat)} {x : Int × Nat} : isF bl sc (A ++ [x]) (A.length + 1) = ((isF bl sc A A.length).1 ++ isB (ic sc x.1.toNat 0) (isF bl sc A A.length).2 x.2, (isF bl sc A A.length).2 + strL bl sc x.1 x.2) := by
  have hx : (A ++ [x]).getD A.length (0, 0) = x := by
    rw [List.getD_eq_getElem?_getD]; simp
  simp only [isF, hx, isF_app (bl := bl) (sc := sc) (A := A) (B := [x]) A.length (Nat.le_refl _)]
theorem ct_iss (bl sc pa : V) : ∀ j, (isF bl sc (ct bl sc pa j).1 (ct bl sc pa j).1.length).1 ++ isB (ic sc (ic pa j 0).toNat 0) (isF bl sc (ct bl sc pa j).1 (ct bl sc pa j).1.length).2 (ct bl sc pa j).2 = (List.range (j + 1)).map (iss bl sc pa) ∧
    iss bl sc pa j = (isF bl sc (ct bl sc pa j).1 (ct bl sc pa j).1.length).2 + (((ct bl sc pa j).2 : Int) - 1) * ic sc (ic pa j 0).toNat 0 ∧ ((ct bl sc pa j).2 = 1 ∨ SPp bl sc (ic pa j 0))
  | 0 => by simp [ct, isF, isB, iss, List.range_succ]
  | j + 1 => by
    obtain ⟨h1, h2, h3⟩ := ct_iss bl sc pa j
    obtain ⟨-, b2, -⟩ := ct_le bl sc pa j
    have hr : (List.range (j + 1 + 1)).map (iss bl sc pa) = (List.range (j + 1)).map (iss bl sc pa) ++ [iss bl sc pa (j + 1)] := by
      rw [List.range_succ, List.map_append]; rfl
    have hi : iss bl sc pa (j + 1) = iss bl sc pa j + (if ic pa j 0 = ic pa (j + 1) 0 ∧ SPp bl sc (ic pa (j + 1) 0) then ic sc (ic pa j 0).toNat 0 else ic sc (ic pa j 0).toNat 1) := rfl
    by_cases cs : ic pa j 0 = ic pa (j + 1) 0 ∧ SPp bl sc (ic pa (j + 1) 0)
    · have hct : ct bl sc pa (j + 1) = ((ct bl sc pa j).1, (ct bl sc pa j).2 + 1) := by simp only [ct]; rw [if_pos cs]
      rw [if_pos cs] at hi
      rw [hct, hr, hi]
      simp only
      rw [isB_succ, ← List.append_assoc, ← cs.1, h1, h2]
      generalize (ct bl sc pa j).2 = v at *
      generalize ic sc (ic pa j 0).toNat 0 = ii
      generalize (isF bl sc (ct bl sc pa j).1 (ct bl sc pa j).1.length).2 = β
      have e1 : β + ((v : Int) - 1) * ii + ii = β + (v : Int) * ii := by
        rw [Int.sub_mul]; omega
      refine ⟨by rw [e1], ?_, .inr (cs.1 ▸ cs.2)⟩
      rw [e1]
      have : (((v + 1 : Nat) : Int) - 1) = v := by omega
      rw [this]
    · have hct : ct bl sc pa (j + 1) = ((ct bl sc pa j).1 ++ [(ic pa j 0, (ct bl sc pa j).2)], 1) := by simp only [ct]; rw [if_neg cs]
      rw [if_neg cs] at hi
      have hsn := isF_snoc (bl := bl) (sc := sc) (A := (ct bl sc pa j).1) (x := (ic pa j 0, (ct bl sc pa j).2))
      rw [hct, hr]
      simp only [List.length_append, List.length_cons, List.length_nil, Nat.zero_add]
      rw [hsn]
      simp only
      rw [h1]
      have hb : (isF bl sc (ct bl sc pa j).1 (ct bl sc pa j).1.length).2 + strL bl sc (ic pa j 0) ((ct bl sc pa j).2 : Int) = iss bl sc pa (j + 1) := by
        rw [hi, h2]
        unfold strL
        rcases h3 with h3 | h3
        · rw [h3]
          split <;> simp
        · rw [if_pos h3]; omega
      rw [hb]
      exact ⟨by simp [isB], by simp, .inl trivial⟩
theorem isF_stA (bl sc pa : V) (j : Nat) : (isF bl sc (stA bl sc pa j) (stA bl sc pa j).length).1 = (List.range (j + 1)).map (iss bl sc pa) := by
  have hl : (stA bl sc pa j).length = (ct bl sc pa j).1.length + 1 := by simp [stA]
  rw [hl]
  unfold stA
  rw [isF_snoc]
  exact (ct_iss bl sc pa j).1
theorem stA_ok (bl sc pa : V) : ∀ j, (∀ i, i ≤ j → okP bl pa i) → ∀ x ∈ stA bl sc pa j, 0 ≤ x.1 ∧ x.1 < lenV bl ∧ 1 ≤ x.2 ∧ x.2 ≤ j + 1
  | 0, h => by
    intro x hx
    simp [stA, ct] at hx
    subst hx
    have := h 0 (by omega)
    exact ⟨this.1, this.2.1, by simp, by simp⟩
  | j + 1, h => by
    have ih := stA_ok bl sc pa j (fun i hi => h i (by omega))
    obtain ⟨-, b2, b3⟩ := ct_le bl sc pa (j + 1)
    intro x hx
    have hj := h (j + 1) (by omega)
    have hx' : x ∈ stA bl sc pa j ∨ x = (ic pa (j + 1) 0, (ct bl sc pa (j + 1)).2) := by
      unfold stA at hx
      rcases List.mem_append.1 hx with h1 | h1
      · left
        simp only [ct] at h1
        split at h1
        · unfold stA; exact List.mem_append.2 (.inl h1)
        · exact h1
      · right; simpa using h1
    rcases hx' with h1 | rfl
    · have := ih x h1
      omega
    · exact ⟨hj.1, hj.2.1, by simp; omega, by simp; omega⟩
theorem good_ok {bl sc pa : V} (h : Good bl sc pa) (hn : lenV pa ≤ 60) : OkS sc (stA bl sc pa (lenV pa - 1)) := by
  obtain ⟨g1, g2, g3, g4, g5⟩ := h
  obtain ⟨b1, -, -⟩ := ct_le bl sc pa (lenV pa - 1)
  have hl : (stA bl sc pa (lenV pa - 1)).length = (ct bl sc pa (lenV pa - 1)).1.length + 1 := by simp [stA]
  refine ⟨by omega, fun s hs => ?_⟩
  have hm : (stA bl sc pa (lenV pa - 1)).getD s (0, 0) ∈ stA bl sc pa (lenV pa - 1) := by
    rw [List.getD_eq_getElem?_getD, List.getElem?_eq_getElem hs]
    exact List.getElem_mem hs
  have := stA_ok bl sc pa (lenV pa - 1) (fun i hi => g5 i (by omega)) _ hm
  omega
end Go.AM.Ytegibclhopenmaa

set_option linter.unusedVariables false
set_option linter.unusedSimpArgs false
namespace Go.AM.Ytegibclhopenmaa
open Go Go.AM
set_option maxRecDepth 100000
set_option maxHeartbeats 0
attribute [local congr] kif_congr
theorem kRet_tupsl {H : Heap} {fs : List (Nat × Nat)} {z b L o n z' fz : Nat} {es : List (List V)} {w : V} {d : Bool} (hw : w.flat = true) : kRet H fs (some (.tup [.sl z b L o n, w], [⟨z', es, fz, false, true⟩], d)) = some (.tup [.sl z (H.length + b) L o n, w], .new [⟨z', es, fz, false, true⟩]) := by
  cases w <;> first | (simp [V.flat] at hw; done) | simp [kRet, V.ren, renL, backG, renH, Blk.ren, nt3, nt2, nt1, flatH, V.flat]
def issL (bl sc pa : V) : List Int := (List.range (lenV pa)).map (iss bl sc pa)
theorem x9o (call : CallT) (K : Nat) (B : Blk) (bl sc : V) (S : List (Int × Nat)) (t : St) (ht : I9o B bl sc S S.length t) : Nn (execC call pu 0 K c9_b1 t) := by
  obtain ⟨d, ht⟩ := ht
  rcases ht with ⟨hs, rfl⟩ | ⟨hs, rfl⟩
  · unfold c9_b1 T9oe
    simp (contextual := true) (maxSteps := 10000000) (implicitDefEqProofs := false) [Nn_exit, kCond_kc, kc_kif, ↓kif_tr, ↓kif_fl, kif_tr, kif_fl, kif_same, ↓kif_not, ↓kif_or, ↓kifg_tr, ↓kifg_fl, ↓kifg_not, ↓kifg_or, ↓kifg_and, kifg_kif, kifB_t, kifB_f, kifB_ft, kifB_tt, kif_bool, kif_int, mergeL, mergeV, mergeS, mergeRs, kSeq_kif, kBlk_kif, kPost_kif, kNext_kif, kFin_kif, kReg_kif, kOps_kif, kO_kif, kG_kif, kDrw_kif, kW_kif, kOpsW_kif, kRet_kif, map_kif, bind_kif, kWant_t, kWant_f, kWant_kif, ↓execI_pick, kPick_bool, kPick_kif, ↓execI_iadr, kIadr_sl, ↓execI_idxs, kIdxs_str, ↓execI_len, ↓rdB_ld, kRd_ptr, kRd_tptr, kRd_tup, kRd_kif, kOpsW_bs, gt0, st0, gt1, st1, gt2, st2, gt3, st3, gt4, st4, gt5, st5, gt6, st6, gt7, st7, gt8, st8, -kWant_bool, -Int.not_le, -Int.not_lt, -decide_eq_true_eq, -decide_eq_false_iff_not, -List.getD_eq_getElem?_getD, -List.set_cons_succ, -List.set_cons_zero, -Bool.and_eq_true, -Bool.or_eq_true, -Bool.not_eq_eq_eq_not, -Bool.or_eq_false_iff, -Bool.and_eq_false_imp, -Bool.not_eq_true, -Bool.not_eq_false]
  · unfold c9_b1 T9on
    simp (contextual := true) (maxSteps := 10000000) (implicitDefEqProofs := false) [Nn_exit, kCond_kc, kc_kif, ↓kif_tr, ↓kif_fl, kif_tr, kif_fl, kif_same, ↓kif_not, ↓kif_or, ↓kifg_tr, ↓kifg_fl, ↓kifg_not, ↓kifg_or, ↓kifg_and, kifg_kif, kifB_t, kifB_f, kifB_ft, kifB_tt, kif_bool, kif_int, mergeL, mergeV, mergeS, mergeRs, kSeq_kif, kBlk_kif, kPost_kif, kNext_kif, kFin_kif, kReg_kif, kOps_kif, kO_kif, kG_kif, kDrw_kif, kW_kif, kOpsW_kif, kRet_kif, map_kif, bind_kif, kWant_t, kWant_f, kWant_kif, ↓execI_pick, kPick_bool, kPick_kif, ↓execI_iadr, kIadr_sl, ↓execI_idxs, kIdxs_str, ↓execI_len, ↓rdB_ld, kRd_ptr, kRd_tptr, kRd_tup, kRd_kif, kOpsW_bs, gt0, st0, gt1, st1, gt2, st2, gt3, st3, gt4, st4, gt5, st5, gt6, st6, gt7, st7, gt8, st8, -kWant_bool, -Int.not_le, -Int.not_lt, -decide_eq_true_eq, -decide_eq_false_iff_not, -List.getD_eq_getElem?_getD, -List.set_cons_succ, -List.set_cons_zero, -Bool.and_eq_true, -Bool.or_eq_true, -Bool.not_eq_eq_eq_not, -Bool.or_eq_false_iff, -Bool.and_eq_false_imp, -Bool.not_eq_true, -Bool.not_eq_false]
theorem tot9 (K : Nat) (hK : BIG ≤ K) (nm : ByteArray) (w ar st rt bl : V) (h : OkF nm w ar st rt bl) (sc pa : V) (hs : S28 [sc]) (hp : S22 [pa]) (hn : lenV pa ≤ 60) (ho : ∀ j, j < lenV sc → okS sc j) :
    (Good bl sc pa ∧ ∃ d, callF tbl pu (K + 3) 9 [.agg [.str nm, w, ar, st, rt, bl], sc, pa] [] = some (.tup [.sl 1 0 (lenV pa) 0 (lenV pa), .int .i64 0], [bxO (issL bl sc pa)], d)) ∨
    (¬ Good bl sc pa ∧ ∃ d, callF tbl pu (K + 3) 9 [.agg [.str nm, w, ar, st, rt, bl], sc, pa] [] = some (.tup [.nils, .int .i64 3], [], d)) := by
  rw [callF_eq tbl9, c9]
  have gw := LS22 h.w
  have ga := LS23 h.ar
  have gs := LS24 h.st
  have gr := LS22 h.rt
  have gb := LS25 h.bl
  have gc := LS28 hs
  have gp := LS22 hp
  rcases tot12 K hK nm w ar st rt bl h sc pa hs hp hn with ⟨hg, d0, q12⟩ | ⟨hg, d0, q12⟩
  · refine .inl ⟨hg, ?_⟩
    have hS := good_ok hg hn
    have hm : spM bl sc pa = (stA bl sc pa (lenV pa - 1)).length := by simp [spM, stA]
    have hb : spB bl sc pa = bxL (stA bl sc pa (lenV pa - 1)) := rfl
    have hfin : (isF bl sc (stA bl sc pa (lenV pa - 1)) (stA bl sc pa (lenV pa - 1)).length).1 = issL bl sc pa := by
      rw [isF_stA]
      have : lenV pa - 1 + 1 = lenV pa := by have := hg.2.1; omega
      rw [this]; rfl
    have hlen : (issL bl sc pa).length = lenV pa := by simp [issL]
    have hS1 : 0 < (stA bl sc pa (lenV pa - 1)).length := by simp [stA]
    rw [hm, hb] at q12
    generalize stA bl sc pa (lenV pa - 1) = S at *
    have M1 : S.length < K + 2 := big_lt (by have := hS.1; simp only [LMAX]; omega) (big_add 2 hK)
    rcases loop_go (t0 := T9oe sc 1 S.length 0 [bxF nm w ar st rt bl, bxL S] false) (pre := tidy [1, 3, 10, 11, 25, 26, 27] 0) (fun s t hsl ht => g9o K hK nm w ar st rt bl h sc hs S hS ho s hsl t ht) (fun t ht => x9o (callF tbl pu (K + 2)) (K + 2) _ bl sc S t ht) ⟨_, .inl ⟨rfl, rfl⟩⟩ with ⟨t, ⟨d, ht⟩, hl⟩ | ⟨r, hr, hl⟩
    case inr => exact hr.elim
    rcases ht with ⟨h0, -⟩ | ⟨-, rfl⟩
    · omega
    rw [hfin, hlen] at hl
    unfold bxL at q12
    simp (contextual := true) (maxSteps := 10000000) (implicitDefEqProofs := false) [gw.cell, refs_tree gw.tree, ren_tree gw.tree, kLen_lst gw.lst, snap1_tree gw.tree, snap_tree gw.tree, ga.cell, refs_tree ga.tree, ren_tree ga.tree, kLen_lst ga.lst, snap1_tree ga.tree, snap_tree ga.tree, gs.cell, refs_tree gs.tree, ren_tree gs.tree, kLen_lst gs.lst, snap1_tree gs.tree, snap_tree gs.tree, gr.cell, refs_tree gr.tree, ren_tree gr.tree, kLen_lst gr.lst, snap1_tree gr.tree, snap_tree gr.tree, gb.cell, refs_tree gb.tree, ren_tree gb.tree, kLen_lst gb.lst, snap1_tree gb.tree, snap_tree gb.tree, gc.cell, refs_tree gc.tree, ren_tree gc.tree, kLen_lst gc.lst, snap1_tree gc.tree, snap_tree gc.tree, gp.cell, refs_tree gp.tree, ren_tree gp.tree, kLen_lst gp.lst, snap1_tree gp.tree, snap_tree gp.tree, callV_pu, q12, kRet_tupsl, execC_loop, -kIter_succ, -List.getElem?_map, kCond_kc, kc_kif, ↓kif_tr, ↓kif_fl, kif_tr, kif_fl, kif_same, ↓kif_not, ↓kif_or, ↓kifg_tr, ↓kifg_fl, ↓kifg_not, ↓kifg_or, ↓kifg_and, kifg_kif, kifB_t, kifB_f, kifB_ft, kifB_tt, kif_bool, kif_int, mergeL, mergeV, mergeS, mergeRs, kSeq_kif, kBlk_kif, kPost_kif, kNext_kif, kFin_kif, kReg_kif, kOps_kif, kO_kif, kG_kif, kDrw_kif, kW_kif, kOpsW_kif, kRet_kif, map_kif, bind_kif, kWant_t, kWant_f, kWant_kif, ↓execI_pick, kPick_bool, kPick_kif, ↓execI_iadr, kIadr_sl, ↓execI_idxs, kIdxs_str, ↓execI_len, ↓rdB_ld, kRd_ptr, kRd_tptr, kRd_tup, kRd_kif, kOpsW_bs, gt0, st0, gt1, st1, gt2, st2, gt3, st3, gt4, st4, gt5, st5, gt6, st6, gt7, st7, gt8, st8, -kWant_bool, -Int.not_le, -Int.not_lt, -decide_eq_true_eq, -decide_eq_false_iff_not, -List.getD_eq_getElem?_getD, -List.set_cons_succ, -List.set_cons_zero, -Bool.and_eq_true, -Bool.or_eq_true, -Bool.not_eq_eq_eq_not, -Bool.or_eq_false_iff, -Bool.and_eq_false_imp, -Bool.not_eq_true, -Bool.not_eq_false]
    rw [hl _ _ M1 (by simp (contextual := true) (maxSteps := 10000000) (implicitDefEqProofs := false) [T9oe, bxF, bxL, tidy, gw.cell, refs_tree gw.tree, ren_tree gw.tree, kLen_lst gw.lst, snap1_tree gw.tree, snap_tree gw.tree, ga.cell, refs_tree ga.tree, ren_tree ga.tree, kLen_lst ga.lst, snap1_tree ga.tree, snap_tree ga.tree, gs.cell, refs_tree gs.tree, ren_tree gs.tree, kLen_lst gs.lst, snap1_tree gs.tree, snap_tree gs.tree, gr.cell, refs_tree gr.tree, ren_tree gr.tree, kLen_lst gr.lst, snap1_tree gr.tree, snap_tree gr.tree, gb.cell, refs_tree gb.tree, ren_tree gb.tree, kLen_lst gb.lst, snap1_tree gb.tree, snap_tree gb.tree, gc.cell, refs_tree gc.tree, ren_tree gc.tree, kLen_lst gc.lst, snap1_tree gc.tree, snap_tree gc.tree, -List.getElem?_map, kCond_kc, kc_kif, ↓kif_tr, ↓kif_fl, kif_tr, kif_fl, kif_same, ↓kif_not, ↓kif_or, ↓kifg_tr, ↓kifg_fl, ↓kifg_not, ↓kifg_or, ↓kifg_and, kifg_kif, kifB_t, kifB_f, kifB_ft, kifB_tt, kif_bool, kif_int, mergeL, mergeV, mergeS, mergeRs, kSeq_kif, kBlk_kif, kPost_kif, kNext_kif, kFin_kif, kReg_kif, kOps_kif, kO_kif, kG_kif, kDrw_kif, kW_kif, kOpsW_kif, kRet_kif, map_kif, bind_kif, kWant_t, kWant_f, kWant_kif, ↓execI_pick, kPick_bool, kPick_kif, ↓execI_iadr, kIadr_sl, ↓execI_idxs, kIdxs_str, ↓execI_len, ↓rdB_ld, kRd_ptr, kRd_tptr, kRd_tup, kRd_kif, kOpsW_bs, gt0, st0, gt1, st1, gt2, st2, gt3, st3, gt4, st4, gt5, st5, gt6, st6, gt7, st7, gt8, st8, -kWant_bool, -Int.not_le, -Int.not_lt, -decide_eq_true_eq, -decide_eq_false_iff_not, -List.getD_eq_getElem?_getD, -List.set_cons_succ, -List.set_cons_zero, -Bool.and_eq_true, -Bool.or_eq_true, -Bool.not_eq_eq_eq_not, -Bool.or_eq_false_iff, -Bool.and_eq_false_imp, -Bool.not_eq_true, -Bool.not_eq_false])]
    simp (contextual := true) (maxSteps := 10000000) (implicitDefEqProofs := false) [T9on, c9_b1, bxF, bxO, bxL, hlen, gw.cell, refs_tree gw.tree, ren_tree gw.tree, kLen_lst gw.lst, snap1_tree gw.tree, snap_tree gw.tree, ga.cell, refs_tree ga.tree, ren_tree ga.tree, kLen_lst ga.lst, snap1_tree ga.tree, snap_tree ga.tree, gs.cell, refs_tree gs.tree, ren_tree gs.tree, kLen_lst gs.lst, snap1_tree gs.tree, snap_tree gs.tree, gr.cell, refs_tree gr.tree, ren_tree gr.tree, kLen_lst gr.lst, snap1_tree gr.tree, snap_tree gr.tree, gb.cell, refs_tree gb.tree, ren_tree gb.tree, kLen_lst gb.lst, snap1_tree gb.tree, snap_tree gb.tree, gc.cell, refs_tree gc.tree, ren_tree gc.tree, kLen_lst gc.lst, snap1_tree gc.tree, snap_tree gc.tree, -List.getElem?_map, kCond_kc, kc_kif, ↓kif_tr, ↓kif_fl, kif_tr, kif_fl, kif_same, ↓kif_not, ↓kif_or, ↓kifg_tr, ↓kifg_fl, ↓kifg_not, ↓kifg_or, ↓kifg_and, kifg_kif, kifB_t, kifB_f, kifB_ft, kifB_tt, kif_bool, kif_int, mergeL, mergeV, mergeS, mergeRs, kSeq_kif, kBlk_kif, kPost_kif, kNext_kif, kFin_kif, kReg_kif, kOps_kif, kO_kif, kG_kif, kDrw_kif, kW_kif, kOpsW_kif, kRet_kif, map_kif, bind_kif, kWant_t, kWant_f, kWant_kif, ↓execI_pick, kPick_bool, kPick_kif, ↓execI_iadr, kIadr_sl, ↓execI_idxs, kIdxs_str, ↓execI_len, ↓rdB_ld, kRd_ptr, kRd_tptr, kRd_tup, kRd_kif, kOpsW_bs, gt0, st0, gt1, st1, gt2, st2, gt3, st3, gt4, st4, gt5, st5, gt6, st6, gt7, st7, gt8, st8, -kWant_bool, -Int.not_le, -Int.not_lt, -decide_eq_true_eq, -decide_eq_false_iff_not, -List.getD_eq_getElem?_getD, -List.set_cons_succ, -List.set_cons_zero, -Bool.and_eq_true, -Bool.or_eq_true, -Bool.not_eq_eq_eq_not, -Bool.or_eq_false_iff, -Bool.and_eq_false_imp, -Bool.not_eq_true, -Bool.not_eq_false]
  · refine .inr ⟨hg, ?_⟩
    simp (contextual := true) (maxSteps := 10000000) (implicitDefEqProofs := false) [gw.cell, refs_tree gw.tree, ren_tree gw.tree, kLen_lst gw.lst, snap1_tree gw.tree, snap_tree gw.tree, ga.cell, refs_tree ga.tree, ren_tree ga.tree, kLen_lst ga.lst, snap1_tree ga.tree, snap_tree ga.tree, gs.cell, refs_tree gs.tree, ren_tree gs.tree, kLen_lst gs.lst, snap1_tree gs.tree, snap_tree gs.tree, gr.cell, refs_tree gr.tree, ren_tree gr.tree, kLen_lst gr.lst, snap1_tree gr.tree, snap_tree gr.tree, gb.cell, refs_tree gb.tree, ren_tree gb.tree, kLen_lst gb.lst, snap1_tree gb.tree, snap_tree gb.tree, gc.cell, refs_tree gc.tree, ren_tree gc.tree, kLen_lst gc.lst, snap1_tree gc.tree, snap_tree gc.tree, gp.cell, refs_tree gp.tree, ren_tree gp.tree, kLen_lst gp.lst, snap1_tree gp.tree, snap_tree gp.tree, callV_pu, q12, kCond_kc, kc_kif, ↓kif_tr, ↓kif_fl, kif_tr, kif_fl, kif_same, ↓kif_not, ↓kif_or, ↓kifg_tr, ↓kifg_fl, ↓kifg_not, ↓kifg_or, ↓kifg_and, kifg_kif, kifB_t, kifB_f, kifB_ft, kifB_tt, kif_bool, kif_int, mergeL, mergeV, mergeS, mergeRs, kSeq_kif, kBlk_kif, kPost_kif, kNext_kif, kFin_kif, kReg_kif, kOps_kif, kO_kif, kG_kif, kDrw_kif, kW_kif, kOpsW_kif, kRet_kif, map_kif, bind_kif, kWant_t, kWant_f, kWant_kif, ↓execI_pick, kPick_bool, kPick_kif, ↓execI_iadr, kIadr_sl, ↓execI_idxs, kIdxs_str, ↓execI_len, ↓rdB_ld, kRd_ptr, kRd_tptr, kRd_tup, kRd_kif, kOpsW_bs, gt0, st0, gt1, st1, gt2, st2, gt3, st3, gt4, st4, gt5, st5, gt6, st6, gt7, st7, gt8, st8, -kWant_bool, -Int.not_le, -Int.not_lt, -decide_eq_true_eq, -decide_eq_false_iff_not, -List.getD_eq_getElem?_getD, -List.set_cons_succ, -List.set_cons_zero, -Bool.and_eq_true, -Bool.or_eq_true, -Bool.not_eq_eq_eq_not, -Bool.or_eq_false_iff, -Bool.and_eq_false_imp, -Bool.not_eq_true, -Bool.not_eq_false]
end Go.AM.Ytegibclhopenmaa
