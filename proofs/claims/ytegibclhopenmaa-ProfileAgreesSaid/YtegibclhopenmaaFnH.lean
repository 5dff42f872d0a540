/- jacquardref56.Blocks and cycles.Count: what they return; few. -/
import Derived.Test.YtegibclhopenmaaFnF
set_option linter.unusedVariables false
set_option linter.unusedSimpArgs false
namespace Go.AM.Ytegibclhopenmaa
open Go Go.AM
set_option maxRecDepth 100000
set_option maxHeartbeats 0
attribute [local congr] kif_congr
theorem x13o (call : CallT) (K : Nat) (B : Blk) (sc pa : V) (nb : Nat) (L : Mp) (t : St) (ht : J13o B sc pa nb L nb t) : Nn (execC call pu 0 K c13_b1 t) := by
  obtain ⟨d, ht⟩ := ht
  rcases ht with ⟨hs, rfl⟩ | ⟨hs, rfl⟩
  · unfold c13_b1 T13oe
    simp (contextual := true) (maxSteps := 10000000) (implicitDefEqProofs := false) [Nn_exit, kCond_kc, kc_kif, ↓kif_tr, ↓kif_fl, kif_tr, kif_fl, kif_same, ↓kif_not, ↓kif_or, ↓kifg_tr, ↓kifg_fl, ↓kifg_not, ↓kifg_or, ↓kifg_and, kifg_kif, kifB_t, kifB_f, kifB_ft, kifB_tt, kif_bool, kif_int, mergeL, mergeV, mergeS, mergeRs, kSeq_kif, kBlk_kif, kPost_kif, kNext_kif, kFin_kif, kReg_kif, kOps_kif, kO_kif, kG_kif, kDrw_kif, kW_kif, kOpsW_kif, kRet_kif, map_kif, bind_kif, kWant_t, kWant_f, kWant_kif, ↓execI_pick, kPick_bool, kPick_kif, ↓execI_iadr, kIadr_sl, ↓execI_idxs, kIdxs_str, ↓execI_len, ↓rdB_ld, kRd_ptr, kRd_tptr, kRd_tup, kRd_kif, kOpsW_bs, gt0, st0, gt1, st1, gt2, st2, gt3, st3, gt4, st4, gt5, st5, gt6, st6, gt7, st7, gt8, st8, -kWant_bool, -Int.not_le, -Int.not_lt, -decide_eq_true_eq, -decide_eq_false_iff_not, -List.getD_eq_getElem?_getD, -List.set_cons_succ, -List.set_cons_zero, -Bool.and_eq_true, -Bool.or_eq_true, -Bool.not_eq_eq_eq_not, -Bool.or_eq_false_iff, -Bool.and_eq_false_imp, -Bool.not_eq_true, -Bool.not_eq_false]
  · unfold c13_b1 T13on
    simp (contextual := true) (maxSteps := 10000000) (implicitDefEqProofs := false) [Nn_exit, kCond_kc, kc_kif, ↓kif_tr, ↓kif_fl, kif_tr, kif_fl, kif_same, ↓kif_not, ↓kif_or, ↓kifg_tr, ↓kifg_fl, ↓kifg_not, ↓kifg_or, ↓kifg_and, kifg_kif, kifB_t, kifB_f, kifB_ft, kifB_tt, kif_bool, kif_int, mergeL, mergeV, mergeS, mergeRs, kSeq_kif, kBlk_kif, kPost_kif, kNext_kif, kFin_kif, kReg_kif, kOps_kif, kO_kif, kG_kif, kDrw_kif, kW_kif, kOpsW_kif, kRet_kif, map_kif, bind_kif, kWant_t, kWant_f, kWant_kif, ↓execI_pick, kPick_bool, kPick_kif, ↓execI_iadr, kIadr_sl, ↓execI_idxs, kIdxs_str, ↓execI_len, ↓rdB_ld, kRd_ptr, kRd_tptr, kRd_tup, kRd_kif, kOpsW_bs, gt0, st0, gt1, st1, gt2, st2, gt3, st3, gt4, st4, gt5, st5, gt6, st6, gt7, st7, gt8, st8, -kWant_bool, -Int.not_le, -Int.not_lt, -decide_eq_true_eq, -decide_eq_false_iff_not, -List.getD_eq_getElem?_getD, -List.set_cons_succ, -List.set_cons_zero, -Bool.and_eq_true, -Bool.or_eq_true, -Bool.not_eq_eq_eq_not, -Bool.or_eq_false_iff, -Bool.and_eq_false_imp, -Bool.not_eq_true, -Bool.not_eq_false]
theorem tot13 (K : Nat) (hK : BIG ≤ K) (nm : ByteArray) (w ar st rt bl : V) (h : OkF nm w ar st rt bl) (sc pa : V) (hs : S28 [sc]) (hp : S22 [pa]) (hn : lenV pa ≤ 60) (hnb : lenV bl ≤ 1000) (hsc : lenV sc = lenV bl) (ho : ∀ j, j < lenV sc → okS sc j) (hne : 0 < (refL bl sc pa (lenV pa) (lenV bl)).length) :
    RtH (.sl 3 0 (refL bl sc pa (lenV pa) (lenV bl)).length 0 (refL bl sc pa (lenV pa) (lenV bl)).length) [bxR (refL bl sc pa (lenV pa) (lenV bl))] (callF tbl pu (K + 2) 13 [.agg [.str nm, w, ar, st, rt, bl], sc, pa] []) := by
  rw [callF_eq tbl13, c13]
  have gw := LS22 h.w
  have ga := LS23 h.ar
  have gs := LS24 h.st
  have gr := LS22 h.rt
  have gb := LS25 h.bl
  have gc := LS28 hs
  have gp := LS22 hp
  have M1 : lenV bl < K + 1 := big_lt (by simp only [LMAX]; omega) (big_add 1 hK)
  rcases loop_go (t0 := T13oe sc pa (lenV bl) 0 [bxF nm w ar st rt bl] false) (pre := tidy [1, 2, 3, 7, 13, 14] 0) (fun k t hk ht => g13o K hK nm w ar st rt bl h sc pa hs hp hn hnb hsc ho k hk t ht) (fun t ht => x13o (callF tbl pu (K + 1)) (K + 1) _ sc pa _ _ t ht) ⟨false, .inl ⟨rfl, rfl⟩⟩ with ⟨t, ⟨d, ht⟩, hl⟩ | ⟨r, hr, hl⟩
  case inr => exact hr.elim
  generalize refL bl sc pa (lenV pa) (lenV bl) = L at *
  rcases ht with ⟨h0, -⟩ | ⟨-, rfl⟩
  · rw [h0] at hne; simp at hne
  simp (contextual := true) (maxSteps := 10000000) (implicitDefEqProofs := false) [gw.all, ga.all, gs.all, gr.all, gb.all, gc.all, gp.all, execC_loop, -kIter_succ, kCond_kc, kc_kif, ↓kif_tr, ↓kif_fl, kif_tr, kif_fl, kif_same, ↓kif_not, ↓kif_or, ↓kifg_tr, ↓kifg_fl, ↓kifg_not, ↓kifg_or, ↓kifg_and, kifg_kif, kifB_t, kifB_f, kifB_ft, kifB_tt, kif_bool, kif_int, mergeL, mergeV, mergeS, mergeRs, kSeq_kif, kBlk_kif, kPost_kif, kNext_kif, kFin_kif, kReg_kif, kOps_kif, kO_kif, kG_kif, kDrw_kif, kW_kif, kOpsW_kif, kRet_kif, map_kif, bind_kif, kWant_t, kWant_f, kWant_kif, ↓execI_pick, kPick_bool, kPick_kif, ↓execI_iadr, kIadr_sl, ↓execI_idxs, kIdxs_str, ↓execI_len, ↓rdB_ld, kRd_ptr, kRd_tptr, kRd_tup, kRd_kif, kOpsW_bs, gt0, st0, gt1, st1, gt2, st2, gt3, st3, gt4, st4, gt5, st5, gt6, st6, gt7, st7, gt8, st8, -kWant_bool, -Int.not_le, -Int.not_lt, -decide_eq_true_eq, -decide_eq_false_iff_not, -List.getD_eq_getElem?_getD, -List.set_cons_succ, -List.set_cons_zero, -Bool.and_eq_true, -Bool.or_eq_true, -Bool.not_eq_eq_eq_not, -Bool.or_eq_false_iff, -Bool.and_eq_false_imp, -Bool.not_eq_true, -Bool.not_eq_false]
  rw [hl _ _ M1 (by simp (contextual := true) (maxSteps := 10000000) (implicitDefEqProofs := false) [T13oe, bxF, tidy, gw.all, ga.all, gs.all, gr.all, gb.all, gc.all, gp.all, kCond_kc, kc_kif, ↓kif_tr, ↓kif_fl, kif_tr, kif_fl, kif_same, ↓kif_not, ↓kif_or, ↓kifg_tr, ↓kifg_fl, ↓kifg_not, ↓kifg_or, ↓kifg_and, kifg_kif, kifB_t, kifB_f, kifB_ft, kifB_tt, kif_bool, kif_int, mergeL, mergeV, mergeS, mergeRs, kSeq_kif, kBlk_kif, kPost_kif, kNext_kif, kFin_kif, kReg_kif, kOps_kif, kO_kif, kG_kif, kDrw_kif, kW_kif, kOpsW_kif, kRet_kif, map_kif, bind_kif, kWant_t, kWant_f, kWant_kif, ↓execI_pick, kPick_bool, kPick_kif, ↓execI_iadr, kIadr_sl, ↓execI_idxs, kIdxs_str, ↓execI_len, ↓rdB_ld, kRd_ptr, kRd_tptr, kRd_tup, kRd_kif, kOpsW_bs, gt0, st0, gt1, st1, gt2, st2, gt3, st3, gt4, st4, gt5, st5, gt6, st6, gt7, st7, gt8, st8, -kWant_bool, -Int.not_le, -Int.not_lt, -decide_eq_true_eq, -decide_eq_false_iff_not, -List.getD_eq_getElem?_getD, -List.set_cons_succ, -List.set_cons_zero, -Bool.and_eq_true, -Bool.or_eq_true, -Bool.not_eq_eq_eq_not, -Bool.or_eq_false_iff, -Bool.and_eq_false_imp, -Bool.not_eq_true, -Bool.not_eq_false])]
  simp (contextual := true) (maxSteps := 10000000) (implicitDefEqProofs := false) [T13on, c13_b1, bxF, bxR_ren, bxR_box, gw.all, ga.all, gs.all, gr.all, gb.all, gc.all, gp.all, RtH_some, kCond_kc, kc_kif, ↓kif_tr, ↓kif_fl, kif_tr, kif_fl, kif_same, ↓kif_not, ↓kif_or, ↓kifg_tr, ↓kifg_fl, ↓kifg_not, ↓kifg_or, ↓kifg_and, kifg_kif, kifB_t, kifB_f, kifB_ft, kifB_tt, kif_bool, kif_int, mergeL, mergeV, mergeS, mergeRs, kSeq_kif, kBlk_kif, kPost_kif, kNext_kif, kFin_kif, kReg_kif, kOps_kif, kO_kif, kG_kif, kDrw_kif, kW_kif, kOpsW_kif, kRet_kif, map_kif, bind_kif, kWant_t, kWant_f, kWant_kif, ↓execI_pick, kPick_bool, kPick_kif, ↓execI_iadr, kIadr_sl, ↓execI_idxs, kIdxs_str, ↓execI_len, ↓rdB_ld, kRd_ptr, kRd_tptr, kRd_tup, kRd_kif, kOpsW_bs, gt0, st0, gt1, st1, gt2, st2, gt3, st3, gt4, st4, gt5, st5, gt6, st6, gt7, st7, gt8, st8, -kWant_bool, -Int.not_le, -Int.not_lt, -decide_eq_true_eq, -decide_eq_false_iff_not, -List.getD_eq_getElem?_getD, -List.set_cons_succ, -List.set_cons_zero, -Bool.and_eq_true, -Bool.or_eq_true, -Bool.not_eq_eq_eq_not, -Bool.or_eq_false_iff, -Bool.and_eq_false_imp, -Bool.not_eq_true, -Bool.not_eq_false]
theorem tot7b (K : Nat) (hK : BIG ≤ K) (nm : ByteArray) (w ar st rt bl : V) (h : OkF nm w ar st rt bl) (sc pa : V) (hs : S28 [sc]) (hp : S22 [pa]) : RtW ((∀ j, j < lenV sc → okS sc j) ∧ lenV pa ≤ 60 ∧ lenV bl ≤ 10) (callF tbl pu (K + 7) 7 [.agg [.str nm, w, ar, st, rt, bl, sc, pa]] []) := by
  rw [callF_eq tbl7, c7]
  have gw := LS22 h.w
  have ga := LS23 h.ar
  have gs := LS24 h.st
  have gr := LS22 h.rt
  have gb := LS25 h.bl
  have gc := LS28 hs
  have gp := LS22 hp
  have M1 : lenV sc < K + 6 := big_lt (len28 hs) (big_add 6 hK)
  have q16 := eq16 K hK nm w ar st rt bl h
  rcases loop_ok (fun j hj => g7 (callF tbl pu (K + 6)) (K + 6) nm w ar st rt bl h sc pa hs hp j hj) (x7 (callF tbl pu (K + 6)) (K + 6) nm w ar st rt bl h sc pa) with ⟨h0, hl⟩ | ⟨r, hr, hl⟩
  · simp (contextual := true) (maxSteps := 10000000) (implicitDefEqProofs := false) [gw.all, ga.all, gs.all, gr.all, gb.all, gc.all, gp.all, execC_loop, -kIter_succ, kCond_kc, kc_kif, ↓kif_tr, ↓kif_fl, kif_tr, kif_fl, kif_same, ↓kif_not, ↓kif_or, ↓kifg_tr, ↓kifg_fl, ↓kifg_not, ↓kifg_or, ↓kifg_and, kifg_kif, kifB_t, kifB_f, kifB_ft, kifB_tt, kif_bool, kif_int, mergeL, mergeV, mergeS, mergeRs, kSeq_kif, kBlk_kif, kPost_kif, kNext_kif, kFin_kif, kReg_kif, kOps_kif, kO_kif, kG_kif, kDrw_kif, kW_kif, kOpsW_kif, kRet_kif, map_kif, bind_kif, kWant_t, kWant_f, kWant_kif, ↓execI_pick, kPick_bool, kPick_kif, ↓execI_iadr, kIadr_sl, ↓execI_idxs, kIdxs_str, ↓execI_len, ↓rdB_ld, kRd_ptr, kRd_tptr, kRd_tup, kRd_kif, kOpsW_bs, gt0, st0, gt1, st1, gt2, st2, gt3, st3, gt4, st4, gt5, st5, gt6, st6, gt7, st7, gt8, st8, -kWant_bool, -Int.not_le, -Int.not_lt, -decide_eq_true_eq, -decide_eq_false_iff_not, -List.getD_eq_getElem?_getD, -List.set_cons_succ, -List.set_cons_zero, -Bool.and_eq_true, -Bool.or_eq_true, -Bool.not_eq_eq_eq_not, -Bool.or_eq_false_iff, -Bool.and_eq_false_imp, -Bool.not_eq_true, -Bool.not_eq_false]
    rw [hl _ _ M1 (by simp (contextual := true) (maxSteps := 10000000) (implicitDefEqProofs := false) [T7, bxW, tidy, gw.all, ga.all, gs.all, gr.all, gb.all, gc.all, gp.all, kCond_kc, kc_kif, ↓kif_tr, ↓kif_fl, kif_tr, kif_fl, kif_same, ↓kif_not, ↓kif_or, ↓kifg_tr, ↓kifg_fl, ↓kifg_not, ↓kifg_or, ↓kifg_and, kifg_kif, kifB_t, kifB_f, kifB_ft, kifB_tt, kif_bool, kif_int, mergeL, mergeV, mergeS, mergeRs, kSeq_kif, kBlk_kif, kPost_kif, kNext_kif, kFin_kif, kReg_kif, kOps_kif, kO_kif, kG_kif, kDrw_kif, kW_kif, kOpsW_kif, kRet_kif, map_kif, bind_kif, kWant_t, kWant_f, kWant_kif, ↓execI_pick, kPick_bool, kPick_kif, ↓execI_iadr, kIadr_sl, ↓execI_idxs, kIdxs_str, ↓execI_len, ↓rdB_ld, kRd_ptr, kRd_tptr, kRd_tup, kRd_kif, kOpsW_bs, gt0, st0, gt1, st1, gt2, st2, gt3, st3, gt4, st4, gt5, st5, gt6, st6, gt7, st7, gt8, st8, -kWant_bool, -Int.not_le, -Int.not_lt, -decide_eq_true_eq, -decide_eq_false_iff_not, -List.getD_eq_getElem?_getD, -List.set_cons_succ, -List.set_cons_zero, -Bool.and_eq_true, -Bool.or_eq_true, -Bool.not_eq_eq_eq_not, -Bool.or_eq_false_iff, -Bool.and_eq_false_imp, -Bool.not_eq_true, -Bool.not_eq_false])]
    simp (contextual := true) (maxSteps := 10000000) (implicitDefEqProofs := false) [T7, c7_b0, bxW, gw.all, ga.all, gs.all, gr.all, gb.all, gc.all, gp.all, callV_pu, q16, RtW_kif, RtW_some, kCond_kc, kc_kif, ↓kif_tr, ↓kif_fl, kif_tr, kif_fl, kif_same, ↓kif_not, ↓kif_or, ↓kifg_tr, ↓kifg_fl, ↓kifg_not, ↓kifg_or, ↓kifg_and, kifg_kif, kifB_t, kifB_f, kifB_ft, kifB_tt, kif_bool, kif_int, mergeL, mergeV, mergeS, mergeRs, kSeq_kif, kBlk_kif, kPost_kif, kNext_kif, kFin_kif, kReg_kif, kOps_kif, kO_kif, kG_kif, kDrw_kif, kW_kif, kOpsW_kif, kRet_kif, map_kif, bind_kif, kWant_t, kWant_f, kWant_kif, ↓execI_pick, kPick_bool, kPick_kif, ↓execI_iadr, kIadr_sl, ↓execI_idxs, kIdxs_str, ↓execI_len, ↓rdB_ld, kRd_ptr, kRd_tptr, kRd_tup, kRd_kif, kOpsW_bs, gt0, st0, gt1, st1, gt2, st2, gt3, st3, gt4, st4, gt5, st5, gt6, st6, gt7, st7, gt8, st8, -kWant_bool, -Int.not_le, -Int.not_lt, -decide_eq_true_eq, -decide_eq_false_iff_not, -List.getD_eq_getElem?_getD, -List.set_cons_succ, -List.set_cons_zero, -Bool.and_eq_true, -Bool.or_eq_true, -Bool.not_eq_eq_eq_not, -Bool.or_eq_false_iff, -Bool.and_eq_false_imp, -Bool.not_eq_true, -Bool.not_eq_false]
    intro hh
    refine ⟨h0, ?_⟩
    simp at hh
    omega
  · obtain ⟨fr, H, d, rfl, h'⟩ := RtF_eq hr
    simp (contextual := true) (maxSteps := 10000000) (implicitDefEqProofs := false) [gw.all, ga.all, gs.all, gr.all, gb.all, gc.all, gp.all, execC_loop, -kIter_succ, kCond_kc, kc_kif, ↓kif_tr, ↓kif_fl, kif_tr, kif_fl, kif_same, ↓kif_not, ↓kif_or, ↓kifg_tr, ↓kifg_fl, ↓kifg_not, ↓kifg_or, ↓kifg_and, kifg_kif, kifB_t, kifB_f, kifB_ft, kifB_tt, kif_bool, kif_int, mergeL, mergeV, mergeS, mergeRs, kSeq_kif, kBlk_kif, kPost_kif, kNext_kif, kFin_kif, kReg_kif, kOps_kif, kO_kif, kG_kif, kDrw_kif, kW_kif, kOpsW_kif, kRet_kif, map_kif, bind_kif, kWant_t, kWant_f, kWant_kif, ↓execI_pick, kPick_bool, kPick_kif, ↓execI_iadr, kIadr_sl, ↓execI_idxs, kIdxs_str, ↓execI_len, ↓rdB_ld, kRd_ptr, kRd_tptr, kRd_tup, kRd_kif, kOpsW_bs, gt0, st0, gt1, st1, gt2, st2, gt3, st3, gt4, st4, gt5, st5, gt6, st6, gt7, st7, gt8, st8, -kWant_bool, -Int.not_le, -Int.not_lt, -decide_eq_true_eq, -decide_eq_false_iff_not, -List.getD_eq_getElem?_getD, -List.set_cons_succ, -List.set_cons_zero, -Bool.and_eq_true, -Bool.or_eq_true, -Bool.not_eq_eq_eq_not, -Bool.or_eq_false_iff, -Bool.and_eq_false_imp, -Bool.not_eq_true, -Bool.not_eq_false]
    rw [hl _ _ M1 (by simp (contextual := true) (maxSteps := 10000000) (implicitDefEqProofs := false) [T7, bxW, tidy, gw.all, ga.all, gs.all, gr.all, gb.all, gc.all, gp.all, kCond_kc, kc_kif, ↓kif_tr, ↓kif_fl, kif_tr, kif_fl, kif_same, ↓kif_not, ↓kif_or, ↓kifg_tr, ↓kifg_fl, ↓kifg_not, ↓kifg_or, ↓kifg_and, kifg_kif, kifB_t, kifB_f, kifB_ft, kifB_tt, kif_bool, kif_int, mergeL, mergeV, mergeS, mergeRs, kSeq_kif, kBlk_kif, kPost_kif, kNext_kif, kFin_kif, kReg_kif, kOps_kif, kO_kif, kG_kif, kDrw_kif, kW_kif, kOpsW_kif, kRet_kif, map_kif, bind_kif, kWant_t, kWant_f, kWant_kif, ↓execI_pick, kPick_bool, kPick_kif, ↓execI_iadr, kIadr_sl, ↓execI_idxs, kIdxs_str, ↓execI_len, ↓rdB_ld, kRd_ptr, kRd_tptr, kRd_tup, kRd_kif, kOpsW_bs, gt0, st0, gt1, st1, gt2, st2, gt3, st3, gt4, st4, gt5, st5, gt6, st6, gt7, st7, gt8, st8, -kWant_bool, -Int.not_le, -Int.not_lt, -decide_eq_true_eq, -decide_eq_false_iff_not, -List.getD_eq_getElem?_getD, -List.set_cons_succ, -List.set_cons_zero, -Bool.and_eq_true, -Bool.or_eq_true, -Bool.not_eq_eq_eq_not, -Bool.or_eq_false_iff, -Bool.and_eq_false_imp, -Bool.not_eq_true, -Bool.not_eq_false])]
    simp (contextual := true) (maxSteps := 10000000) (implicitDefEqProofs := false) [fin_ret h', RtW_some, kCond_kc, kc_kif, ↓kif_tr, ↓kif_fl, kif_tr, kif_fl, kif_same, ↓kif_not, ↓kif_or, ↓kifg_tr, ↓kifg_fl, ↓kifg_not, ↓kifg_or, ↓kifg_and, kifg_kif, kifB_t, kifB_f, kifB_ft, kifB_tt, kif_bool, kif_int, mergeL, mergeV, mergeS, mergeRs, kSeq_kif, kBlk_kif, kPost_kif, kNext_kif, kFin_kif, kReg_kif, kOps_kif, kO_kif, kG_kif, kDrw_kif, kW_kif, kOpsW_kif, kRet_kif, map_kif, bind_kif, kWant_t, kWant_f, kWant_kif, ↓execI_pick, kPick_bool, kPick_kif, ↓execI_iadr, kIadr_sl, ↓execI_idxs, kIdxs_str, ↓execI_len, ↓rdB_ld, kRd_ptr, kRd_tptr, kRd_tup, kRd_kif, kOpsW_bs, gt0, st0, gt1, st1, gt2, st2, gt3, st3, gt4, st4, gt5, st5, gt6, st6, gt7, st7, gt8, st8, -kWant_bool, -Int.not_le, -Int.not_lt, -decide_eq_true_eq, -decide_eq_false_iff_not, -List.getD_eq_getElem?_getD, -List.set_cons_succ, -List.set_cons_zero, -Bool.and_eq_true, -Bool.or_eq_true, -Bool.not_eq_eq_eq_not, -Bool.or_eq_false_iff, -Bool.and_eq_false_imp, -Bool.not_eq_true, -Bool.not_eq_false]
/-! cycles.Count -/
def cntS (bl sc : V) (S : List (Int × Nat)) (s : Nat) : Int := 1 + ((S.take s).map fun x => strL bl sc x.1 x.2).sum
def T14 (sc : V) (n s : Nat) (c : Int) (H : Heap) (d : Bool) : St := ⟨[.undef, sc, .undef, .ptr 0 1 0 0, .undef, .undef, .undef, .undef, .undef, .undef, .int .i64 c, .undef, .undef, .undef, .undef, .undef, .undef, .undef, .undef, .undef, .undef, .undef, .undef, .undef, .undef, .undef, .undef, .undef, .undef, .undef, .undef, .undef, .undef, .undef, .undef, .undef, .sl 2 1 n 0 n, .int .i64 n, .int .i64 s, .undef, .undef, .undef, .undef, .undef, .undef, .undef, .undef, .undef, .undef, .undef], H, d⟩
def I14 (B : Blk) (bl sc : V) (S : List (Int × Nat)) (s : Nat) (t : St) : Prop := ∃ d, t = T14 sc S.length s (cntS bl sc S s) [B, bxL S] d
theorem g14 (K : Nat) (hK : BIG ≤ K) (nm : ByteArray) (w ar st rt bl : V) (h : OkF nm w ar st rt bl) (sc : V) (hs : S28 [sc]) (S : List (Int × Nat)) (hS : OkS sc S) (ho : ∀ j, j < lenV sc → okS sc j) (s : Nat) (hsl : s < S.length) (t : St) (ht : I14 (bxF nm w ar st rt bl) bl sc S s t) :
    Go1 (tidy [1, 3, 10, 36, 37, 38] 0) (I14 (bxF nm w ar st rt bl) bl sc S (s + 1)) (fun _ => False) (execC (callF tbl pu (K + 2)) pu 0 (K + 2) c14_b0 t) := by
  obtain ⟨d, rfl⟩ := ht
  have gw := LS22 h.w
  have ga := LS23 h.ar
  have gs := LS24 h.st
  have gr := LS22 h.rt
  have gb := LS25 h.bl
  have gc := LS28 hs
  obtain ⟨x1, x2, x3, x4⟩ := hS.2 s hsl
  have hSb := hS.1
  have hget : (S.map rwS)[s]? = some [.int .i64 (S.getD s (0, 0)).1, .int .i64 (S.getD s (0, 0)).2] := by
    rw [List.getElem?_map, List.getD_eq_getElem?_getD, List.getElem?_eq_getElem hsl]; rfl
  have hSl : (S.map rwS).length = S.length := by simp
  have htk : S.take (s + 1) = S.take s ++ [S.getD s (0, 0)] := by
    rw [List.take_add_one, List.getElem?_eq_getElem hsl, List.getD_eq_getElem?_getD, List.getElem?_eq_getElem hsl]; rfl
  have hcs : cntS bl sc S (s + 1) = cntS bl sc S s + strL bl sc (S.getD s (0, 0)).1 (S.getD s (0, 0)).2 := by
    unfold cntS
    rw [htk]
    simp only [List.map_append, List.map_cons, List.map_nil, List.sum_append, List.sum_cons, List.sum_nil]
    omega
  have hbs : 1 ≤ cntS bl sc S s ∧ cntS bl sc S s ≤ 1 + 60000 * 60 := by
    have := sum_bd (B := 60000) (fun x : Int × Nat => strL bl sc x.1 x.2) (S.take s) (fun x hx => by
      obtain ⟨i, hi, rfl⟩ := List.getElem_of_mem (List.mem_of_mem_take hx)
      have := hS.2 i hi
      rw [List.getD_eq_getElem?_getD, List.getElem?_eq_getElem hi] at this
      simp only [Option.getD_some] at this
      exact strL_bd (ho _ (by omega)) (by omega) (by omega))
    rw [List.length_take] at this
    unfold cntS
    omega
  unfold I14
  rw [hcs]
  generalize cntS bl sc S s = C at *
  generalize S.getD s (0, 0) = x at *
  obtain ⟨b, v⟩ := x
  simp only at *
  have h1 : IntKind.i64.wrap ((s : Int) + 1) = (s : Int) + 1 := wrap64 (by omega) (by omega)
  have h3 : decide ((S.length : Int) ≤ s) = false := by simp; omega
  have h3' : decide (S.length ≤ s) = false := by simp; omega
  have h4 : decide (s < S.length) = true := by simp; omega
  have hob := ho b.toNat (by omega)
  have hbd := strL_bd (bl := bl) (sc := sc) (b := b) (v := (v : Int)) hob (by omega) (by omega)
  obtain ⟨d17, q17⟩ := rtI_val (tot17 K hK nm w ar st rt bl h sc hs b v ⟨by omega, by omega⟩ hob ⟨by omega, by omega⟩)
  have w1 : IntKind.i64.wrap (C + strL bl sc b v) = C + strL bl sc b v := wrap64 (by omega) (by omega)
  have fin : ∀ d, (fun t => ∃ d, t = T14 sc S.length (s + 1) (C + strL bl sc b v) [bxF nm w ar st rt bl, bxL S] d) (T14 sc S.length (s + 1) (C + strL bl sc b v) [bxF nm w ar st rt bl, bxL S] d) := fun d => ⟨d, rfl⟩
  generalize (fun t => ∃ d, t = T14 sc S.length (s + 1) (C + strL bl sc b v) [bxF nm w ar st rt bl, bxL S] d) = II at fin ⊢
  simp only [T14, bxF, bxL, Int.natCast_add, Int.natCast_one] at fin
  unfold c14_b0 T14
  simp (contextual := true) (maxSteps := 10000000) (implicitDefEqProofs := false) [bxF, bxL, h1, h3, h3', h4, hSl, hget, -getElem?_pos, List.getElem?_cons_zero, List.getElem?_cons_succ, callV_pu, q17, w1, gw.all, ga.all, gs.all, gr.all, gb.all, gc.all, freezeH, -List.getElem?_map, -List.length_map, fin, Go1_kif, Go1_ret, Go1_normal, Go1_exit, RtF_ret, ex_eq, ex_eq2, tidy, kCond_kc, kc_kif, ↓kif_tr, ↓kif_fl, kif_tr, kif_fl, kif_same, ↓kif_not, ↓kif_or, ↓kifg_tr, ↓kifg_fl, ↓kifg_not, ↓kifg_or, ↓kifg_and, kifg_kif, kifB_t, kifB_f, kifB_ft, kifB_tt, kif_bool, kif_int, mergeL, mergeV, mergeS, mergeRs, kSeq_kif, kBlk_kif, kPost_kif, kNext_kif, kFin_kif, kReg_kif, kOps_kif, kO_kif, kG_kif, kDrw_kif, kW_kif, kOpsW_kif, kRet_kif, map_kif, bind_kif, kWant_t, kWant_f, kWant_kif, ↓execI_pick, kPick_bool, kPick_kif, ↓execI_iadr, kIadr_sl, ↓execI_idxs, kIdxs_str, ↓execI_len, ↓rdB_ld, kRd_ptr, kRd_tptr, kRd_tup, kRd_kif, kOpsW_bs, gt0, st0, gt1, st1, gt2, st2, gt3, st3, gt4, st4, gt5, st5, gt6, st6, gt7, st7, gt8, st8, -kWant_bool, -Int.not_le, -Int.not_lt, -decide_eq_true_eq, -decide_eq_false_iff_not, -List.getD_eq_getElem?_getD, -List.set_cons_succ, -List.set_cons_zero, -Bool.and_eq_true, -Bool.or_eq_true, -Bool.not_eq_eq_eq_not, -Bool.or_eq_false_iff, -Bool.and_eq_false_imp, -Bool.not_eq_true, -Bool.not_eq_false]
theorem x14 (call : CallT) (K : Nat) (B : Blk) (bl sc : V) (S : List (Int × Nat)) (t : St) (ht : I14 B bl sc S S.length t) : Nn (execC call pu 0 K c14_b0 t) := by
  obtain ⟨d, rfl⟩ := ht
  unfold c14_b0 T14
  simp (contextual := true) (maxSteps := 10000000) (implicitDefEqProofs := false) [Nn_exit, kCond_kc, kc_kif, ↓kif_tr, ↓kif_fl, kif_tr, kif_fl, kif_same, ↓kif_not, ↓kif_or, ↓kifg_tr, ↓kifg_fl, ↓kifg_not, ↓kifg_or, ↓kifg_and, kifg_kif, kifB_t, kifB_f, kifB_ft, kifB_tt, kif_bool, kif_int, mergeL, mergeV, mergeS, mergeRs, kSeq_kif, kBlk_kif, kPost_kif, kNext_kif, kFin_kif, kReg_kif, kOps_kif, kO_kif, kG_kif, kDrw_kif, kW_kif, kOpsW_kif, kRet_kif, map_kif, bind_kif, kWant_t, kWant_f, kWant_kif, ↓execI_pick, kPick_bool, kPick_kif, ↓execI_iadr, kIadr_sl, ↓execI_idxs, kIdxs_str, ↓execI_len, ↓rdB_ld, kRd_ptr, kRd_tptr, kRd_tup, kRd_kif, kOpsW_bs, gt0, st0, gt1, st1, gt2, st2, gt3, st3, gt4, st4, gt5, st5, gt6, st6, gt7, st7, gt8, st8, -kWant_bool, -Int.not_le, -Int.not_lt, -decide_eq_true_eq, -decide_eq_false_iff_not, -List.getD_eq_getElem?_getD, -List.set_cons_succ, -List.set_cons_zero, -Bool.and_eq_true, -Bool.or_eq_true, -Bool.not_eq_eq_eq_not, -Bool.or_eq_false_iff, -Bool.and_eq_false_imp, -Bool.not_eq_true, -Bool.not_eq_false]
theorem tot14 (K : Nat) (hK : BIG ≤ K) (nm : ByteArray) (w ar st rt bl : V) (h : OkF nm w ar st rt bl) (sc pa : V) (hs : S28 [sc]) (hp : S22 [pa]) (hn : lenV pa ≤ 60) (ho : ∀ j, j < lenV sc → okS sc j) :
    (Good bl sc pa ∧ ∃ d, callF tbl pu (K + 3) 14 [.agg [.str nm, w, ar, st, rt, bl], sc, pa] [] = some (.tup [.int .i64 (1 + ((stA bl sc pa (lenV pa - 1)).map fun x => strL bl sc x.1 x.2).sum), .int .i64 0], [], d)) ∨
    (∃ d, callF tbl pu (K + 3) 14 [.agg [.str nm, w, ar, st, rt, bl], sc, pa] [] = some (.tup [.int .i64 0, .int .i64 3], [], d)) := by
  rw [callF_eq tbl14, c14]
  have gw := LS22 h.w
  have ga := LS23 h.ar
  have gs := LS24 h.st
  have gr := LS22 h.rt
  have gb := LS25 h.bl
  have gc := LS28 hs
  have gp := LS22 hp
  rcases tot12 K hK nm w ar st rt bl h sc pa hs hp hn with ⟨hg, d0, q12⟩ | ⟨hg, d0, q12⟩
  case inr =>
    refine .inr ?_
    simp (contextual := true) (maxSteps := 10000000) (implicitDefEqProofs := false) [gw.all, ga.all, gs.all, gr.all, gb.all, gc.all, gp.all, callV_pu, q12, kCond_kc, kc_kif, ↓kif_tr, ↓kif_fl, kif_tr, kif_fl, kif_same, ↓kif_not, ↓kif_or, ↓kifg_tr, ↓kifg_fl, ↓kifg_not, ↓kifg_or, ↓kifg_and, kifg_kif, kifB_t, kifB_f, kifB_ft, kifB_tt, kif_bool, kif_int, mergeL, mergeV, mergeS, mergeRs, kSeq_kif, kBlk_kif, kPost_kif, kNext_kif, kFin_kif, kReg_kif, kOps_kif, kO_kif, kG_kif, kDrw_kif, kW_kif, kOpsW_kif, kRet_kif, map_kif, bind_kif, kWant_t, kWant_f, kWant_kif, ↓execI_pick, kPick_bool, kPick_kif, ↓execI_iadr, kIadr_sl, ↓execI_idxs, kIdxs_str, ↓execI_len, ↓rdB_ld, kRd_ptr, kRd_tptr, kRd_tup, kRd_kif, kOpsW_bs, gt0, st0, gt1, st1, gt2, st2, gt3, st3, gt4, st4, gt5, st5, gt6, st6, gt7, st7, gt8, st8, -kWant_bool, -Int.not_le, -Int.not_lt, -decide_eq_true_eq, -decide_eq_false_iff_not, -List.getD_eq_getElem?_getD, -List.set_cons_succ, -List.set_cons_zero, -Bool.and_eq_true, -Bool.or_eq_true, -Bool.not_eq_eq_eq_not, -Bool.or_eq_false_iff, -Bool.and_eq_false_imp, -Bool.not_eq_true, -Bool.not_eq_false]
  have hS := good_ok hg hn
  have hm : spM bl sc pa = (stA bl sc pa (lenV pa - 1)).length := by simp [spM, stA]
  have hb : spB bl sc pa = bxL (stA bl sc pa (lenV pa - 1)) := rfl
  rw [hm, hb] at q12
  have hcs : cntS bl sc (stA bl sc pa (lenV pa - 1)) (stA bl sc pa (lenV pa - 1)).length = 1 + ((stA bl sc pa (lenV pa - 1)).map fun x => strL bl sc x.1 x.2).sum := by
    unfold cntS; rw [List.take_length]
  rw [← hcs]
  generalize stA bl sc pa (lenV pa - 1) = S at *
  have hp0 := hg.2.1
  obtain ⟨hgl1, hgl2, -⟩ := hg.2.2.2.2 (lenV pa - 1) (by omega)
  have hw : IntKind.i64.wrap ((lenV pa : Int) - 1) = ((lenV pa - 1 : Nat) : Int) := by rw [show ((lenV pa - 1 : Nat) : Int) = (lenV pa : Int) - 1 by omega]; exact wrap64 (by omega) (by omega)
  have e1 : decide (lenV pa ≤ lenV pa - 1) = false := by simp; omega
  have hrow := (e22 hp (i := lenV pa - 1) (by omega)).1
  generalize ic pa (lenV pa - 1) 0 = b at *
  have c1 : decide (b < 0) = false := by simp; omega
  have c2 : decide ((lenV bl : Int) ≤ b) = false := by simp; omega
  have hrb := (e25 h.bl (i := b.toNat) (by omega)).1
  have M1 : S.length < K + 2 := big_lt (by have := hS.1; simp only [LMAX]; omega) (big_add 2 hK)
  unfold bxL at q12
  by_cases a1 : ic bl b.toNat 2 = 3
  case neg =>
    refine .inr ?_
    have e2 : decide (ic bl b.toNat 2 = 3) = false := by simp [a1]
    simp (contextual := true) (maxSteps := 10000000) (implicitDefEqProofs := false) [c14_r0, c14_a0, hw, e1, e2, hrow, c1, c2, hrb, kIadr_LS gp, kIadr_LS gb, gw.all, ga.all, gs.all, gr.all, gb.all, gc.all, gp.all, callV_pu, q12, kRet_tupsl, -List.getElem?_map, kCond_kc, kc_kif, ↓kif_tr, ↓kif_fl, kif_tr, kif_fl, kif_same, ↓kif_not, ↓kif_or, ↓kifg_tr, ↓kifg_fl, ↓kifg_not, ↓kifg_or, ↓kifg_and, kifg_kif, kifB_t, kifB_f, kifB_ft, kifB_tt, kif_bool, kif_int, mergeL, mergeV, mergeS, mergeRs, kSeq_kif, kBlk_kif, kPost_kif, kNext_kif, kFin_kif, kReg_kif, kOps_kif, kO_kif, kG_kif, kDrw_kif, kW_kif, kOpsW_kif, kRet_kif, map_kif, bind_kif, kWant_t, kWant_f, kWant_kif, ↓execI_pick, kPick_bool, kPick_kif, ↓execI_iadr, kIadr_sl, ↓execI_idxs, kIdxs_str, ↓execI_len, ↓rdB_ld, kRd_ptr, kRd_tptr, kRd_tup, kRd_kif, kOpsW_bs, gt0, st0, gt1, st1, gt2, st2, gt3, st3, gt4, st4, gt5, st5, gt6, st6, gt7, st7, gt8, st8, -kWant_bool, -Int.not_le, -Int.not_lt, -decide_eq_true_eq, -decide_eq_false_iff_not, -List.getD_eq_getElem?_getD, -List.set_cons_succ, -List.set_cons_zero, -Bool.and_eq_true, -Bool.or_eq_true, -Bool.not_eq_eq_eq_not, -Bool.or_eq_false_iff, -Bool.and_eq_false_imp, -Bool.not_eq_true, -Bool.not_eq_false]
  refine .inl ⟨hg, ?_⟩
  have e2 : decide (ic bl b.toNat 2 = 3) = true := by simp [a1]
  rcases loop_go (t0 := T14 sc S.length 0 1 [bxF nm w ar st rt bl, bxL S] false) (pre := tidy [1, 3, 10, 36, 37, 38] 0) (fun s t hsl ht => g14 K hK nm w ar st rt bl h sc hs S hS ho s hsl t ht) (fun t ht => x14 (callF tbl pu (K + 2)) (K + 2) _ bl sc S t ht) ⟨false, by simp [cntS]⟩ with ⟨t, ⟨d, rfl⟩, hl⟩ | ⟨r, hr, hl⟩
  case inr => exact hr.elim
  generalize cntS bl sc S S.length = C at *
  simp (contextual := true) (maxSteps := 10000000) (implicitDefEqProofs := false) [c14_r0, c14_a0, hw, e1, e2, hrow, c1, c2, hrb, kIadr_LS gp, kIadr_LS gb, gw.all, ga.all, gs.all, gr.all, gb.all, gc.all, gp.all, callV_pu, q12, kRet_tupsl, execC_loop, -kIter_succ, -List.getElem?_map, kCond_kc, kc_kif, ↓kif_tr, ↓kif_fl, kif_tr, kif_fl, kif_same, ↓kif_not, ↓kif_or, ↓kifg_tr, ↓kifg_fl, ↓kifg_not, ↓kifg_or, ↓kifg_and, kifg_kif, kifB_t, kifB_f, kifB_ft, kifB_tt, kif_bool, kif_int, mergeL, mergeV, mergeS, mergeRs, kSeq_kif, kBlk_kif, kPost_kif, kNext_kif, kFin_kif, kReg_kif, kOps_kif, kO_kif, kG_kif, kDrw_kif, kW_kif, kOpsW_kif, kRet_kif, map_kif, bind_kif, kWant_t, kWant_f, kWant_kif, ↓execI_pick, kPick_bool, kPick_kif, ↓execI_iadr, kIadr_sl, ↓execI_idxs, kIdxs_str, ↓execI_len, ↓rdB_ld, kRd_ptr, kRd_tptr, kRd_tup, kRd_kif, kOpsW_bs, gt0, st0, gt1, st1, gt2, st2, gt3, st3, gt4, st4, gt5, st5, gt6, st6, gt7, st7, gt8, st8, -kWant_bool, -Int.not_le, -Int.not_lt, -decide_eq_true_eq, -decide_eq_false_iff_not, -List.getD_eq_getElem?_getD, -List.set_cons_succ, -List.set_cons_zero, -Bool.and_eq_true, -Bool.or_eq_true, -Bool.not_eq_eq_eq_not, -Bool.or_eq_false_iff, -Bool.and_eq_false_imp, -Bool.not_eq_true, -Bool.not_eq_false]
  rw [hl _ _ M1 (by simp (contextual := true) (maxSteps := 10000000) (implicitDefEqProofs := false) [T14, bxF, bxL, tidy, gw.all, ga.all, gs.all, gr.all, gb.all, gc.all, gp.all, -List.getElem?_map, kCond_kc, kc_kif, ↓kif_tr, ↓kif_fl, kif_tr, kif_fl, kif_same, ↓kif_not, ↓kif_or, ↓kifg_tr, ↓kifg_fl, ↓kifg_not, ↓kifg_or, ↓kifg_and, kifg_kif, kifB_t, kifB_f, kifB_ft, kifB_tt, kif_bool, kif_int, mergeL, mergeV, mergeS, mergeRs, kSeq_kif, kBlk_kif, kPost_kif, kNext_kif, kFin_kif, kReg_kif, kOps_kif, kO_kif, kG_kif, kDrw_kif, kW_kif, kOpsW_kif, kRet_kif, map_kif, bind_kif, kWant_t, kWant_f, kWant_kif, ↓execI_pick, kPick_bool, kPick_kif, ↓execI_iadr, kIadr_sl, ↓execI_idxs, kIdxs_str, ↓execI_len, ↓rdB_ld, kRd_ptr, kRd_tptr, kRd_tup, kRd_kif, kOpsW_bs, gt0, st0, gt1, st1, gt2, st2, gt3, st3, gt4, st4, gt5, st5, gt6, st6, gt7, st7, gt8, st8, -kWant_bool, -Int.not_le, -Int.not_lt, -decide_eq_true_eq, -decide_eq_false_iff_not, -List.getD_eq_getElem?_getD, -List.set_cons_succ, -List.set_cons_zero, -Bool.and_eq_true, -Bool.or_eq_true, -Bool.not_eq_eq_eq_not, -Bool.or_eq_false_iff, -Bool.and_eq_false_imp, -Bool.not_eq_true, -Bool.not_eq_false])]
  simp (contextual := true) (maxSteps := 10000000) (implicitDefEqProofs := false) [T14, c14_b0, bxF, bxL, gw.all, ga.all, gs.all, gr.all, gb.all, gc.all, gp.all, -List.getElem?_map, kCond_kc, kc_kif, ↓kif_tr, ↓kif_fl, kif_tr, kif_fl, kif_same, ↓kif_not, ↓kif_or, ↓kifg_tr, ↓kifg_fl, ↓kifg_not, ↓kifg_or, ↓kifg_and, kifg_kif, kifB_t, kifB_f, kifB_ft, kifB_tt, kif_bool, kif_int, mergeL, mergeV, mergeS, mergeRs, kSeq_kif, kBlk_kif, kPost_kif, kNext_kif, kFin_kif, kReg_kif, kOps_kif, kO_kif, kG_kif, kDrw_kif, kW_kif, kOpsW_kif, kRet_kif, map_kif, bind_kif, kWant_t, kWant_f, kWant_kif, ↓execI_pick, kPick_bool, kPick_kif, ↓execI_iadr, kIadr_sl, ↓execI_idxs, kIdxs_str, ↓execI_len, ↓rdB_ld, kRd_ptr, kRd_tptr, kRd_tup, kRd_kif, kOpsW_bs, gt0, st0, gt1, st1, gt2, st2, gt3, st3, gt4, st4, gt5, st5, gt6, st6, gt7, st7, gt8, st8, -kWant_bool, -Int.not_le, -Int.not_lt, -decide_eq_true_eq, -decide_eq_false_iff_not, -List.getD_eq_getElem?_getD, -List.set_cons_succ, -List.set_cons_zero, -Bool.and_eq_true, -Bool.or_eq_true, -Bool.not_eq_eq_eq_not, -Bool.or_eq_false_iff, -Bool.and_eq_false_imp, -Bool.not_eq_true, -Bool.not_eq_false]
end Go.AM.Ytegibclhopenmaa

set_option linter.unusedVariables false
set_option linter.unusedSimpArgs false
namespace Go.AM.Ytegibclhopenmaa
open Go Go.AM
set_option maxRecDepth 100000
set_option maxHeartbeats 0
attribute [local congr] kif_congr
theorem awakeC (K : Nat) (hK : BIG ≤ K) : callF tbl pu K 6 [] [] = some (.bool true, [], false) := by
  unfold BIG at hK
  obtain ⟨k, rfl⟩ : ∃ k, K = k + 40 := ⟨K - 40, by omega⟩
  exact awakeK k
theorem stA_all {bl sc pa : V} (hg : Good bl sc pa) : ∀ x ∈ stA bl sc pa (lenV pa - 1), 0 ≤ x.1 ∧ x.1 < lenV bl ∧ 1 ≤ x.2 := by
  intro x hx
  have := hg.2.1
  have := stA_ok bl sc pa (lenV pa - 1) (fun i hi => hg.2.2.2.2 i (by omega)) x hx
  omega
theorem blkL_eq {bl sc pa : V} (hg : Good bl sc pa) : blkL bl sc pa = refL bl sc pa (lenV pa) (lenV bl) :=
  shL_eq hg.2.1 hg.2.2.2.2 (stA_all hg)
theorem blkL_bd {bl sc pa : V} (hg : Good bl sc pa) (hn : lenV pa ≤ 60) (ho : ∀ j, j < lenV sc → okS sc j) : (blkL bl sc pa).length ≤ 60 ∧ 0 < (blkL bl sc pa).length ∧ ∀ x ∈ blkL bl sc pa, 0 ≤ x.2.1 ∧ x.2.1 ≤ 3600 ∧ 0 ≤ x.2.2 ∧ x.2.2 ≤ 3600000 := by
  have hS := good_ok hg hn
  have hS1 : 0 < (stA bl sc pa (lenV pa - 1)).length := by simp [stA]
  unfold blkL
  generalize stA bl sc pa (lenV pa - 1) = S at *
  have hl := accM_len (strL bl sc) S
  have hge := accM_get (strL bl sc) S
  have hmem := accM_mem (strL bl sc) S
  have hb : ∀ x ∈ S, okS sc x.1.toNat ∧ 1 ≤ x.2 ∧ x.2 ≤ 60 := by
    intro x hx
    obtain ⟨i, hi, rfl⟩ := List.getElem_of_mem hx
    have := hS.2 i hi
    rw [List.getD_eq_getElem?_getD, List.getElem?_eq_getElem hi] at this
    simp only [Option.getD_some] at this
    exact ⟨ho _ (by omega), by omega, by omega⟩
  have h0 : (shL (accM (strL bl sc) S)).length = (accM (strL bl sc) S).length := by unfold shL; simp
  refine ⟨by have := hS.1; omega, ?_, fun x hx => ?_⟩
  · rw [h0]
    have hx : S[0] ∈ S := List.getElem_mem hS1
    have := (hmem (S[0]).1).2 ⟨_, hx, rfl⟩
    rw [List.mem_map] at this
    obtain ⟨y, hy, -⟩ := this
    exact List.length_pos_of_mem hy
  · unfold shL at hx
    obtain ⟨k, -, rfl⟩ := List.mem_map.1 hx
    rw [hge]
    have b1 := sumV_bd (S := S) (fun x hx => (hb x hx).2.2) hS.1 k
    have b2 := sumC_bd (bl := bl) (S := S) hb hS.1 k
    exact ⟨b1.1, b1.2, b2.1, b2.2⟩
/-! ProfileBlocks -/
def T4 (L : Mp) (i : Nat) (d : Bool) : St := ⟨[.undef, .undef, .undef, .sl 3 0 L.length 0 L.length, .undef, .undef, .undef, .sl 3 1 L.length 0 L.length, .undef, .undef, .undef, .undef, .undef, .undef, .undef, .undef, .undef, .undef, .undef, .undef, .undef, .undef, .undef, .undef, .undef, .undef, .undef, .undef, .undef, .undef, .undef, .undef, .undef, .undef, .undef, .undef, .undef, .undef, .undef, .undef, .undef, .undef, .undef, .undef, .undef, .undef, .undef, .undef, .undef, .undef, .undef, .undef, .undef, .undef, .undef, .undef, .undef, .undef, .undef, .undef, .undef, .undef, .undef, .undef, .int .i64 L.length, .int .i64 i, .undef, .undef, .undef, .undef, .undef, .undef, .undef, .undef, .undef, .undef, .undef, .undef], [bxR L, bxR L], d⟩
theorem g4 (call : CallT) (K : Nat) (L : Mp) (hL : L.length ≤ 60) (d : Bool) (i : Nat) (hi : i < L.length) : Go1 (tidy [3, 7, 64, 65] 0) (fun t => t = T4 L (i + 1) d) (fun _ => False) (execC call pu 0 K c4_b0 (T4 L i d)) := by
  have h1 : IntKind.i64.wrap ((i : Int) + 1) = (i : Int) + 1 := wrap64 (by omega) (by omega)
  have h3 : decide (L.length ≤ i) = false := by simp; omega
  have h4 : decide (i < L.length) = true := by simp; omega
  have hl : (L.map rwR).length = L.length := by simp
  have hget : (L.map rwR)[i]? = some [.int .i64 (L[i]'hi).1, .int .i64 (L[i]'hi).2.1, .int .i64 (L[i]'hi).2.2] := by
    rw [List.getElem?_map, List.getElem?_eq_getElem hi]; rfl
  unfold c4_b0 c4_r0 c4_a0 T4 bxR
  generalize L.map rwR = os at *
  simp (contextual := true) (maxSteps := 10000000) (implicitDefEqProofs := false) [h1, h3, h4, hl, hget, -getElem?_pos, List.getElem?_cons_zero, List.getElem?_cons_succ, Go1_kif, Go1_ret, Go1_normal, Go1_exit, RtF_ret, ex_eq, ex_eq2, tidy, eqL, eqV, kCond_kc, kc_kif, ↓kif_tr, ↓kif_fl, kif_tr, kif_fl, kif_same, ↓kif_not, ↓kif_or, ↓kifg_tr, ↓kifg_fl, ↓kifg_not, ↓kifg_or, ↓kifg_and, kifg_kif, kifB_t, kifB_f, kifB_ft, kifB_tt, kif_bool, kif_int, mergeL, mergeV, mergeS, mergeRs, kSeq_kif, kBlk_kif, kPost_kif, kNext_kif, kFin_kif, kReg_kif, kOps_kif, kO_kif, kG_kif, kDrw_kif, kW_kif, kOpsW_kif, kRet_kif, map_kif, bind_kif, kWant_t, kWant_f, kWant_kif, ↓execI_pick, kPick_bool, kPick_kif, ↓execI_iadr, kIadr_sl, ↓execI_idxs, kIdxs_str, ↓execI_len, ↓rdB_ld, kRd_ptr, kRd_tptr, kRd_tup, kRd_kif, kOpsW_bs, gt0, st0, gt1, st1, gt2, st2, gt3, st3, gt4, st4, gt5, st5, gt6, st6, gt7, st7, gt8, st8, -kWant_bool, -Int.not_le, -Int.not_lt, -decide_eq_true_eq, -decide_eq_false_iff_not, -List.getD_eq_getElem?_getD, -List.set_cons_succ, -List.set_cons_zero, -Bool.and_eq_true, -Bool.or_eq_true, -Bool.not_eq_eq_eq_not, -Bool.or_eq_false_iff, -Bool.and_eq_false_imp, -Bool.not_eq_true, -Bool.not_eq_false]
theorem x4 (call : CallT) (K : Nat) (L : Mp) (d : Bool) : Nn (execC call pu 0 K c4_b0 (T4 L L.length d)) := by
  unfold c4_b0 T4
  simp (contextual := true) (maxSteps := 10000000) (implicitDefEqProofs := false) [Nn_exit, kCond_kc, kc_kif, ↓kif_tr, ↓kif_fl, kif_tr, kif_fl, kif_same, ↓kif_not, ↓kif_or, ↓kifg_tr, ↓kifg_fl, ↓kifg_not, ↓kifg_or, ↓kifg_and, kifg_kif, kifB_t, kifB_f, kifB_ft, kifB_tt, kif_bool, kif_int, mergeL, mergeV, mergeS, mergeRs, kSeq_kif, kBlk_kif, kPost_kif, kNext_kif, kFin_kif, kReg_kif, kOps_kif, kO_kif, kG_kif, kDrw_kif, kW_kif, kOpsW_kif, kRet_kif, map_kif, bind_kif, kWant_t, kWant_f, kWant_kif, ↓execI_pick, kPick_bool, kPick_kif, ↓execI_iadr, kIadr_sl, ↓execI_idxs, kIdxs_str, ↓execI_len, ↓rdB_ld, kRd_ptr, kRd_tptr, kRd_tup, kRd_kif, kOpsW_bs, gt0, st0, gt1, st1, gt2, st2, gt3, st3, gt4, st4, gt5, st5, gt6, st6, gt7, st7, gt8, st8, -kWant_bool, -Int.not_le, -Int.not_lt, -decide_eq_true_eq, -decide_eq_false_iff_not, -List.getD_eq_getElem?_getD, -List.set_cons_succ, -List.set_cons_zero, -Bool.and_eq_true, -Bool.or_eq_true, -Bool.not_eq_eq_eq_not, -Bool.or_eq_false_iff, -Bool.and_eq_false_imp, -Bool.not_eq_true, -Bool.not_eq_false]
theorem law4 (K : Nat) (hK : BIG ≤ K) (nm : ByteArray) (w ar st rt bl : V) (h : OkF nm w ar st rt bl) (sc pa : V) (hs : S28 [sc]) (hp : S22 [pa]) :
    ∃ H d, callF tbl pu (K + 8) 4 [.agg [.str nm, w, ar, st, rt, bl, sc, pa]] [] = some (.bool true, H, d) := by
  rw [callF_eq tbl4, c4]
  have gw := LS22 h.w
  have ga := LS23 h.ar
  have gs := LS24 h.st
  have gr := LS22 h.rt
  have gb := LS25 h.bl
  have gc := LS28 hs
  have gp := LS22 hp
  have qa := awakeC (K + 7) (big_add 7 hK)
  obtain ⟨b7, d7, q7, h7⟩ := tot7b K hK nm w ar st rt bl h sc pa hs hp
  cases b7 with
  | false =>
    simp (contextual := true) (maxSteps := 10000000) (implicitDefEqProofs := false) [gw.all, ga.all, gs.all, gr.all, gb.all, gc.all, gp.all, callV_pu, qa, q7, kCond_kc, kc_kif, ↓kif_tr, ↓kif_fl, kif_tr, kif_fl, kif_same, ↓kif_not, ↓kif_or, ↓kifg_tr, ↓kifg_fl, ↓kifg_not, ↓kifg_or, ↓kifg_and, kifg_kif, kifB_t, kifB_f, kifB_ft, kifB_tt, kif_bool, kif_int, mergeL, mergeV, mergeS, mergeRs, kSeq_kif, kBlk_kif, kPost_kif, kNext_kif, kFin_kif, kReg_kif, kOps_kif, kO_kif, kG_kif, kDrw_kif, kW_kif, kOpsW_kif, kRet_kif, map_kif, bind_kif, kWant_t, kWant_f, kWant_kif, ↓execI_pick, kPick_bool, kPick_kif, ↓execI_iadr, kIadr_sl, ↓execI_idxs, kIdxs_str, ↓execI_len, ↓rdB_ld, kRd_ptr, kRd_tptr, kRd_tup, kRd_kif, kOpsW_bs, gt0, st0, gt1, st1, gt2, st2, gt3, st3, gt4, st4, gt5, st5, gt6, st6, gt7, st7, gt8, st8, -kWant_bool, -Int.not_le, -Int.not_lt, -decide_eq_true_eq, -decide_eq_false_iff_not, -List.getD_eq_getElem?_getD, -List.set_cons_succ, -List.set_cons_zero, -Bool.and_eq_true, -Bool.or_eq_true, -Bool.not_eq_eq_eq_not, -Bool.or_eq_false_iff, -Bool.and_eq_false_imp, -Bool.not_eq_true, -Bool.not_eq_false]
  | true =>
    obtain ⟨ho, hn, hnb⟩ := h7 rfl
    rcases tot11 (K + 4) (big_add 4 hK) nm w ar st rt bl h sc pa hs hp hn ho with ⟨hg, d11, q11⟩ | ⟨hg, d11, q11⟩
    · rcases tot12 (K + 5) (big_add 5 hK) nm w ar st rt bl h sc pa hs hp hn with ⟨-, d12, q12⟩ | ⟨hg', -⟩
      case inr => exact absurd hg hg'
      have hbd := blkL_bd hg hn ho
      have h13 := tot13 (K + 5) (big_add 5 hK) nm w ar st rt bl h sc pa hs hp hn (by omega) hg.1 ho
      rw [← blkL_eq hg] at h13
      obtain ⟨d13, q13⟩ := h13 hbd.2.1
      have hlb := hbd.1
      generalize blkL bl sc pa = L at *
      have hm : spM bl sc pa = (stA bl sc pa (lenV pa - 1)).length := by simp [spM, stA]
      have hb : spB bl sc pa = bxL (stA bl sc pa (lenV pa - 1)) := rfl
      rw [hm, hb] at q12
      generalize stA bl sc pa (lenV pa - 1) = S at *
      have M1 : L.length < K + 7 := big_lt (by simp only [LMAX]; omega) (big_add 7 hK)
      have hl : ∀ d, (∀ s M, L.length < M → tidy [3, 7, 64, 65] 0 s = some (T4 L 0 d) → iter (tidy [3, 7, 64, 65] 0) (execC (callF tbl pu (K + 7)) pu 0 (K + 7) c4_b0) M s = execC (callF tbl pu (K + 7)) pu 0 (K + 7) c4_b0 (T4 L L.length d)) := by
        intro d
        rcases loop_to (T := fun i => T4 L i d) (R := fun _ => False) (pre := tidy [3, 7, 64, 65] 0) (N := L.length) (fun j hj => g4 (callF tbl pu (K + 7)) (K + 7) L (by omega) d j hj) (x4 (callF tbl pu (K + 7)) (K + 7) L d) with hl | ⟨r, hr, hl⟩
        · exact hl
        · exact hr.elim
      unfold bxR at q11 q13
      unfold bxL at q12
      simp (contextual := true) (maxSteps := 10000000) (implicitDefEqProofs := false) [gw.all, ga.all, gs.all, gr.all, gb.all, gc.all, gp.all, callV_pu, qa, q7, q11, q12, q13, kRet_tupsl, kRet_sl, execC_loop, -kIter_succ, -List.getElem?_map, kCond_kc, kc_kif, ↓kif_tr, ↓kif_fl, kif_tr, kif_fl, kif_same, ↓kif_not, ↓kif_or, ↓kifg_tr, ↓kifg_fl, ↓kifg_not, ↓kifg_or, ↓kifg_and, kifg_kif, kifB_t, kifB_f, kifB_ft, kifB_tt, kif_bool, kif_int, mergeL, mergeV, mergeS, mergeRs, kSeq_kif, kBlk_kif, kPost_kif, kNext_kif, kFin_kif, kReg_kif, kOps_kif, kO_kif, kG_kif, kDrw_kif, kW_kif, kOpsW_kif, kRet_kif, map_kif, bind_kif, kWant_t, kWant_f, kWant_kif, ↓execI_pick, kPick_bool, kPick_kif, ↓execI_iadr, kIadr_sl, ↓execI_idxs, kIdxs_str, ↓execI_len, ↓rdB_ld, kRd_ptr, kRd_tptr, kRd_tup, kRd_kif, kOpsW_bs, gt0, st0, gt1, st1, gt2, st2, gt3, st3, gt4, st4, gt5, st5, gt6, st6, gt7, st7, gt8, st8, -kWant_bool, -Int.not_le, -Int.not_lt, -decide_eq_true_eq, -decide_eq_false_iff_not, -List.getD_eq_getElem?_getD, -List.set_cons_succ, -List.set_cons_zero, -Bool.and_eq_true, -Bool.or_eq_true, -Bool.not_eq_eq_eq_not, -Bool.or_eq_false_iff, -Bool.and_eq_false_imp, -Bool.not_eq_true, -Bool.not_eq_false]
      rw [hl false _ _ M1 (by simp (contextual := true) (maxSteps := 10000000) (implicitDefEqProofs := false) [T4, bxR, tidy, -List.getElem?_map, kCond_kc, kc_kif, ↓kif_tr, ↓kif_fl, kif_tr, kif_fl, kif_same, ↓kif_not, ↓kif_or, ↓kifg_tr, ↓kifg_fl, ↓kifg_not, ↓kifg_or, ↓kifg_and, kifg_kif, kifB_t, kifB_f, kifB_ft, kifB_tt, kif_bool, kif_int, mergeL, mergeV, mergeS, mergeRs, kSeq_kif, kBlk_kif, kPost_kif, kNext_kif, kFin_kif, kReg_kif, kOps_kif, kO_kif, kG_kif, kDrw_kif, kW_kif, kOpsW_kif, kRet_kif, map_kif, bind_kif, kWant_t, kWant_f, kWant_kif, ↓execI_pick, kPick_bool, kPick_kif, ↓execI_iadr, kIadr_sl, ↓execI_idxs, kIdxs_str, ↓execI_len, ↓rdB_ld, kRd_ptr, kRd_tptr, kRd_tup, kRd_kif, kOpsW_bs, gt0, st0, gt1, st1, gt2, st2, gt3, st3, gt4, st4, gt5, st5, gt6, st6, gt7, st7, gt8, st8, -kWant_bool, -Int.not_le, -Int.not_lt, -decide_eq_true_eq, -decide_eq_false_iff_not, -List.getD_eq_getElem?_getD, -List.set_cons_succ, -List.set_cons_zero, -Bool.and_eq_true, -Bool.or_eq_true, -Bool.not_eq_eq_eq_not, -Bool.or_eq_false_iff, -Bool.and_eq_false_imp, -Bool.not_eq_true, -Bool.not_eq_false])]
      simp (contextual := true) (maxSteps := 10000000) (implicitDefEqProofs := false) [T4, c4_b0, bxR_ren, bxR_box, kCond_kc, kc_kif, ↓kif_tr, ↓kif_fl, kif_tr, kif_fl, kif_same, ↓kif_not, ↓kif_or, ↓kifg_tr, ↓kifg_fl, ↓kifg_not, ↓kifg_or, ↓kifg_and, kifg_kif, kifB_t, kifB_f, kifB_ft, kifB_tt, kif_bool, kif_int, mergeL, mergeV, mergeS, mergeRs, kSeq_kif, kBlk_kif, kPost_kif, kNext_kif, kFin_kif, kReg_kif, kOps_kif, kO_kif, kG_kif, kDrw_kif, kW_kif, kOpsW_kif, kRet_kif, map_kif, bind_kif, kWant_t, kWant_f, kWant_kif, ↓execI_pick, kPick_bool, kPick_kif, ↓execI_iadr, kIadr_sl, ↓execI_idxs, kIdxs_str, ↓execI_len, ↓rdB_ld, kRd_ptr, kRd_tptr, kRd_tup, kRd_kif, kOpsW_bs, gt0, st0, gt1, st1, gt2, st2, gt3, st3, gt4, st4, gt5, st5, gt6, st6, gt7, st7, gt8, st8, -kWant_bool, -Int.not_le, -Int.not_lt, -decide_eq_true_eq, -decide_eq_false_iff_not, -List.getD_eq_getElem?_getD, -List.set_cons_succ, -List.set_cons_zero, -Bool.and_eq_true, -Bool.or_eq_true, -Bool.not_eq_eq_eq_not, -Bool.or_eq_false_iff, -Bool.and_eq_false_imp, -Bool.not_eq_true, -Bool.not_eq_false]
    · rcases tot12 (K + 5) (big_add 5 hK) nm w ar st rt bl h sc pa hs hp hn with ⟨hg', -⟩ | ⟨-, d12, q12⟩
      · exact absurd hg' hg
      simp (contextual := true) (maxSteps := 10000000) (implicitDefEqProofs := false) [gw.all, ga.all, gs.all, gr.all, gb.all, gc.all, gp.all, callV_pu, qa, q7, q11, q12, kCond_kc, kc_kif, ↓kif_tr, ↓kif_fl, kif_tr, kif_fl, kif_same, ↓kif_not, ↓kif_or, ↓kifg_tr, ↓kifg_fl, ↓kifg_not, ↓kifg_or, ↓kifg_and, kifg_kif, kifB_t, kifB_f, kifB_ft, kifB_tt, kif_bool, kif_int, mergeL, mergeV, mergeS, mergeRs, kSeq_kif, kBlk_kif, kPost_kif, kNext_kif, kFin_kif, kReg_kif, kOps_kif, kO_kif, kG_kif, kDrw_kif, kW_kif, kOpsW_kif, kRet_kif, map_kif, bind_kif, kWant_t, kWant_f, kWant_kif, ↓execI_pick, kPick_bool, kPick_kif, ↓execI_iadr, kIadr_sl, ↓execI_idxs, kIdxs_str, ↓execI_len, ↓rdB_ld, kRd_ptr, kRd_tptr, kRd_tup, kRd_kif, kOpsW_bs, gt0, st0, gt1, st1, gt2, st2, gt3, st3, gt4, st4, gt5, st5, gt6, st6, gt7, st7, gt8, st8, -kWant_bool, -Int.not_le, -Int.not_lt, -decide_eq_true_eq, -decide_eq_false_iff_not, -List.getD_eq_getElem?_getD, -List.set_cons_succ, -List.set_cons_zero, -Bool.and_eq_true, -Bool.or_eq_true, -Bool.not_eq_eq_eq_not, -Bool.or_eq_false_iff, -Bool.and_eq_false_imp, -Bool.not_eq_true, -Bool.not_eq_false]
/-! ProfileAgrees -/
def sV (L : Mp) (j : Nat) : Int := ((L.take j).map fun x => x.2.1).sum
def sC (L : Mp) (j : Nat) : Int := ((L.take j).map fun x => x.2.2).sum
theorem take_succ {L : Mp} {j : Nat} (hj : j < L.length) : L.take (j + 1) = L.take j ++ [L[j]] := by
  rw [List.take_add_one, List.getElem?_eq_getElem hj]; rfl
def bxQ (nm : ByteArray) (w ar st rt bl sc pa : V) : Blk := ⟨8, [[.str nm, w, ar, st, rt, bl, sc, pa]], 0, true, w.flat && (ar.flat && (st.flat && (rt.flat && (bl.flat && (sc.flat && pa.flat)))))⟩
def T5 (nm : ByteArray) (w ar st rt bl sc pa : V) (n : Int) (L : Mp) (j : Nat) (d : Bool) : St := ⟨[.undef, .ptr 0 1 0 0, .undef, .int .i64 n, .undef, .sl 3 1 L.length 0 L.length, .int .i64 0, .int .i64 (1 + sC L j), .int .i64 (sV L j), .undef, .undef, .undef, .undef, .undef, .undef, .undef, .undef, .undef, .undef, .undef, .undef, .undef, .undef, .undef, .undef, .undef, .undef, .undef, .undef, .undef, .undef, .undef, .undef, .undef, .undef, .undef, .undef, .undef, .undef, .undef, .undef, .int .i64 L.length, .int .i64 j, .undef, .undef, .undef, .undef, .undef, .undef, .undef, .undef, .undef, .undef, .undef, .undef, .undef, .undef, .undef, .undef, .undef, .undef, .undef, .undef, .undef, .undef, .undef, .undef, .undef, .undef, .undef, .undef, .undef, .undef, .undef], [bxQ nm w ar st rt bl sc pa, bxR L], d⟩
theorem g5 (call : CallT) (K : Nat) (nm : ByteArray) (w ar st rt bl : V) (h : OkF nm w ar st rt bl) (sc pa : V) (hs : S28 [sc]) (hp : S22 [pa]) (n : Int) (L : Mp) (hL : L.length ≤ 60) (hb : ∀ x ∈ L, 0 ≤ x.2.1 ∧ x.2.1 ≤ 3600 ∧ 0 ≤ x.2.2 ∧ x.2.2 ≤ 3600000) (d : Bool) (i : Nat) (hi : i < L.length) : Go1 (tidy [1, 3, 5, 6, 7, 8, 41, 42] 0) (fun t => t = T5 nm w ar st rt bl sc pa n L (i + 1) d) (fun _ => False) (execC call pu 0 K c5_b0 (T5 nm w ar st rt bl sc pa n L i d)) := by
  have gw := LS22 h.w
  have ga := LS23 h.ar
  have gs := LS24 h.st
  have gr := LS22 h.rt
  have gb := LS25 h.bl
  have gc := LS28 hs
  have gp := LS22 hp
  have h1 : IntKind.i64.wrap ((i : Int) + 1) = (i : Int) + 1 := wrap64 (by omega) (by omega)
  have h3 : decide (L.length ≤ i) = false := by simp; omega
  have h4 : decide (i < L.length) = true := by simp; omega
  have hl : (L.map rwR).length = L.length := by simp
  have hget : (L.map rwR)[i]? = some [.int .i64 (L[i]'hi).1, .int .i64 (L[i]'hi).2.1, .int .i64 (L[i]'hi).2.2] := by
    rw [List.getElem?_map, List.getElem?_eq_getElem hi]; rfl
  have hv : sV L (i + 1) = sV L i + (L[i]'hi).2.1 := by
    unfold sV; rw [take_succ hi]; simp only [List.map_append, List.map_cons, List.map_nil, List.sum_append, List.sum_cons, List.sum_nil]; omega
  have hc : sC L (i + 1) = sC L i + (L[i]'hi).2.2 := by
    unfold sC; rw [take_succ hi]; simp only [List.map_append, List.map_cons, List.map_nil, List.sum_append, List.sum_cons, List.sum_nil]; omega
  have b1 : 0 ≤ sV L i ∧ sV L i ≤ 3600 * i := by
    have := sum_bd (B := 3600) (fun x : Int × Int × Int => x.2.1) (L.take i) (fun x hx => by have := hb x (List.mem_of_mem_take hx); omega)
    rw [List.length_take] at this
    unfold sV; omega
  have b2 : 0 ≤ sC L i ∧ sC L i ≤ 3600000 * i := by
    have := sum_bd (B := 3600000) (fun x : Int × Int × Int => x.2.2) (L.take i) (fun x hx => by have := hb x (List.mem_of_mem_take hx); omega)
    rw [List.length_take] at this
    unfold sC; omega
  have bx := hb (L[i]'hi) (List.getElem_mem hi)
  unfold T5
  rw [hv, hc]
  generalize sV L i = x at *
  generalize sC L i = y at *
  generalize L[i]'hi = z at *
  obtain ⟨z1, z2, z3⟩ := z
  simp only at *
  have w1 : IntKind.i64.wrap (1 + y + z3) = 1 + (y + z3) := by rw [wrap64 (by omega) (by omega)]; omega
  have w2 : IntKind.i64.wrap (x + z2) = x + z2 := wrap64 (by omega) (by omega)
  unfold c5_b0 bxR bxQ
  generalize L.map rwR = os at *
  simp (contextual := true) (maxSteps := 10000000) (implicitDefEqProofs := false) [h1, h3, h4, hl, hget, w1, w2, -getElem?_pos, List.getElem?_cons_zero, List.getElem?_cons_succ, gw.all, ga.all, gs.all, gr.all, gb.all, gc.all, gp.all, freezeH, Go1_kif, Go1_ret, Go1_normal, Go1_exit, RtF_ret, ex_eq, ex_eq2, tidy, kCond_kc, kc_kif, ↓kif_tr, ↓kif_fl, kif_tr, kif_fl, kif_same, ↓kif_not, ↓kif_or, ↓kifg_tr, ↓kifg_fl, ↓kifg_not, ↓kifg_or, ↓kifg_and, kifg_kif, kifB_t, kifB_f, kifB_ft, kifB_tt, kif_bool, kif_int, mergeL, mergeV, mergeS, mergeRs, kSeq_kif, kBlk_kif, kPost_kif, kNext_kif, kFin_kif, kReg_kif, kOps_kif, kO_kif, kG_kif, kDrw_kif, kW_kif, kOpsW_kif, kRet_kif, map_kif, bind_kif, kWant_t, kWant_f, kWant_kif, ↓execI_pick, kPick_bool, kPick_kif, ↓execI_iadr, kIadr_sl, ↓execI_idxs, kIdxs_str, ↓execI_len, ↓rdB_ld, kRd_ptr, kRd_tptr, kRd_tup, kRd_kif, kOpsW_bs, gt0, st0, gt1, st1, gt2, st2, gt3, st3, gt4, st4, gt5, st5, gt6, st6, gt7, st7, gt8, st8, -kWant_bool, -Int.not_le, -Int.not_lt, -decide_eq_true_eq, -decide_eq_false_iff_not, -List.getD_eq_getElem?_getD, -List.set_cons_succ, -List.set_cons_zero, -Bool.and_eq_true, -Bool.or_eq_true, -Bool.not_eq_eq_eq_not, -Bool.or_eq_false_iff, -Bool.and_eq_false_imp, -Bool.not_eq_true, -Bool.not_eq_false]
theorem x5 (call : CallT) (K : Nat) (nm : ByteArray) (w ar st rt bl : V) (h : OkF nm w ar st rt bl) (sc pa : V) (n : Int) (L : Mp) (d : Bool) : Nn (execC call pu 0 K c5_b0 (T5 nm w ar st rt bl sc pa n L L.length d)) := by
  unfold c5_b0 T5
  simp (contextual := true) (maxSteps := 10000000) (implicitDefEqProofs := false) [Nn_exit, kCond_kc, kc_kif, ↓kif_tr, ↓kif_fl, kif_tr, kif_fl, kif_same, ↓kif_not, ↓kif_or, ↓kifg_tr, ↓kifg_fl, ↓kifg_not, ↓kifg_or, ↓kifg_and, kifg_kif, kifB_t, kifB_f, kifB_ft, kifB_tt, kif_bool, kif_int, mergeL, mergeV, mergeS, mergeRs, kSeq_kif, kBlk_kif, kPost_kif, kNext_kif, kFin_kif, kReg_kif, kOps_kif, kO_kif, kG_kif, kDrw_kif, kW_kif, kOpsW_kif, kRet_kif, map_kif, bind_kif, kWant_t, kWant_f, kWant_kif, ↓execI_pick, kPick_bool, kPick_kif, ↓execI_iadr, kIadr_sl, ↓execI_idxs, kIdxs_str, ↓execI_len, ↓rdB_ld, kRd_ptr, kRd_tptr, kRd_tup, kRd_kif, kOpsW_bs, gt0, st0, gt1, st1, gt2, st2, gt3, st3, gt4, st4, gt5, st5, gt6, st6, gt7, st7, gt8, st8, -kWant_bool, -Int.not_le, -Int.not_lt, -decide_eq_true_eq, -decide_eq_false_iff_not, -List.getD_eq_getElem?_getD, -List.set_cons_succ, -List.set_cons_zero, -Bool.and_eq_true, -Bool.or_eq_true, -Bool.not_eq_eq_eq_not, -Bool.or_eq_false_iff, -Bool.and_eq_false_imp, -Bool.not_eq_true, -Bool.not_eq_false]
theorem law5 (K : Nat) (hK : BIG ≤ K) (nm : ByteArray) (w ar st rt bl : V) (h : OkF nm w ar st rt bl) (sc pa : V) (hs : S28 [sc]) (hp : S22 [pa]) :
    ∃ H d, callF tbl pu (K + 8) 5 [.agg [.str nm, w, ar, st, rt, bl, sc, pa]] [] = some (.bool true, H, d) := by
  rw [callF_eq tbl5, c5]
  have gw := LS22 h.w
  have ga := LS23 h.ar
  have gs := LS24 h.st
  have gr := LS22 h.rt
  have gb := LS25 h.bl
  have gc := LS28 hs
  have gp := LS22 hp
  have qa := awakeC (K + 7) (big_add 7 hK)
  obtain ⟨b7, d7, q7, h7⟩ := tot7b K hK nm w ar st rt bl h sc pa hs hp
  cases b7 with
  | false =>
    simp (contextual := true) (maxSteps := 10000000) (implicitDefEqProofs := false) [gw.all, ga.all, gs.all, gr.all, gb.all, gc.all, gp.all, callV_pu, qa, q7, kCond_kc, kc_kif, ↓kif_tr, ↓kif_fl, kif_tr, kif_fl, kif_same, ↓kif_not, ↓kif_or, ↓kifg_tr, ↓kifg_fl, ↓kifg_not, ↓kifg_or, ↓kifg_and, kifg_kif, kifB_t, kifB_f, kifB_ft, kifB_tt, kif_bool, kif_int, mergeL, mergeV, mergeS, mergeRs, kSeq_kif, kBlk_kif, kPost_kif, kNext_kif, kFin_kif, kReg_kif, kOps_kif, kO_kif, kG_kif, kDrw_kif, kW_kif, kOpsW_kif, kRet_kif, map_kif, bind_kif, kWant_t, kWant_f, kWant_kif, ↓execI_pick, kPick_bool, kPick_kif, ↓execI_iadr, kIadr_sl, ↓execI_idxs, kIdxs_str, ↓execI_len, ↓rdB_ld, kRd_ptr, kRd_tptr, kRd_tup, kRd_kif, kOpsW_bs, gt0, st0, gt1, st1, gt2, st2, gt3, st3, gt4, st4, gt5, st5, gt6, st6, gt7, st7, gt8, st8, -kWant_bool, -Int.not_le, -Int.not_lt, -decide_eq_true_eq, -decide_eq_false_iff_not, -List.getD_eq_getElem?_getD, -List.set_cons_succ, -List.set_cons_zero, -Bool.and_eq_true, -Bool.or_eq_true, -Bool.not_eq_eq_eq_not, -Bool.or_eq_false_iff, -Bool.and_eq_false_imp, -Bool.not_eq_true, -Bool.not_eq_false]
  | true =>
    obtain ⟨ho, hn, hnb⟩ := h7 rfl
    rcases tot14 (K + 4) (big_add 4 hK) nm w ar st rt bl h sc pa hs hp hn ho with ⟨hg, d14, q14⟩ | ⟨d14, q14⟩
    case inr =>
      simp (contextual := true) (maxSteps := 10000000) (implicitDefEqProofs := false) [gw.all, ga.all, gs.all, gr.all, gb.all, gc.all, gp.all, callV_pu, qa, q7, q14, kCond_kc, kc_kif, ↓kif_tr, ↓kif_fl, kif_tr, kif_fl, kif_same, ↓kif_not, ↓kif_or, ↓kifg_tr, ↓kifg_fl, ↓kifg_not, ↓kifg_or, ↓kifg_and, kifg_kif, kifB_t, kifB_f, kifB_ft, kifB_tt, kif_bool, kif_int, mergeL, mergeV, mergeS, mergeRs, kSeq_kif, kBlk_kif, kPost_kif, kNext_kif, kFin_kif, kReg_kif, kOps_kif, kO_kif, kG_kif, kDrw_kif, kW_kif, kOpsW_kif, kRet_kif, map_kif, bind_kif, kWant_t, kWant_f, kWant_kif, ↓execI_pick, kPick_bool, kPick_kif, ↓execI_iadr, kIadr_sl, ↓execI_idxs, kIdxs_str, ↓execI_len, ↓rdB_ld, kRd_ptr, kRd_tptr, kRd_tup, kRd_kif, kOpsW_bs, gt0, st0, gt1, st1, gt2, st2, gt3, st3, gt4, st4, gt5, st5, gt6, st6, gt7, st7, gt8, st8, -kWant_bool, -Int.not_le, -Int.not_lt, -decide_eq_true_eq, -decide_eq_false_iff_not, -List.getD_eq_getElem?_getD, -List.set_cons_succ, -List.set_cons_zero, -Bool.and_eq_true, -Bool.or_eq_true, -Bool.not_eq_eq_eq_not, -Bool.or_eq_false_iff, -Bool.and_eq_false_imp, -Bool.not_eq_true, -Bool.not_eq_false]
    rcases tot11 (K + 4) (big_add 4 hK) nm w ar st rt bl h sc pa hs hp hn ho with ⟨-, d11, q11⟩ | ⟨hg', -⟩
    case inr => exact absurd hg hg'
    obtain ⟨hlb, hl0, hb⟩ := blkL_bd hg hn ho
    have hsum := shL_sum (strL bl sc) (stA bl sc pa (lenV pa - 1))
    rw [stA_sum] at hsum
    have hp0 := hg.2.1
    have hs1 : sV (blkL bl sc pa) (blkL bl sc pa).length = lenV pa := by
      unfold sV; rw [List.take_length]; unfold blkL; rw [hsum.1]; omega
    have hs2 : 1 + sC (blkL bl sc pa) (blkL bl sc pa).length = 1 + ((stA bl sc pa (lenV pa - 1)).map fun x => strL bl sc x.1 x.2).sum := by
      unfold sC; rw [List.take_length]; unfold blkL; rw [hsum.2]
    rw [← hs2] at q14
    generalize blkL bl sc pa = L at *
    have M1 : L.length < K + 7 := big_lt (by simp only [LMAX]; omega) (big_add 7 hK)
    have hl : ∀ n d, (∀ s M, L.length < M → tidy [1, 3, 5, 6, 7, 8, 41, 42] 0 s = some (T5 nm w ar st rt bl sc pa n L 0 d) → iter (tidy [1, 3, 5, 6, 7, 8, 41, 42] 0) (execC (callF tbl pu (K + 7)) pu 0 (K + 7) c5_b0) M s = execC (callF tbl pu (K + 7)) pu 0 (K + 7) c5_b0 (T5 nm w ar st rt bl sc pa n L L.length d)) := by
      intro n d
      rcases loop_to (T := fun i => T5 nm w ar st rt bl sc pa n L i d) (R := fun _ => False) (pre := tidy [1, 3, 5, 6, 7, 8, 41, 42] 0) (N := L.length) (fun j hj => g5 (callF tbl pu (K + 7)) (K + 7) nm w ar st rt bl h sc pa hs hp n L (by omega) hb d j hj) (x5 (callF tbl pu (K + 7)) (K + 7) nm w ar st rt bl h sc pa n L d) with hl | ⟨r, hr, hl⟩
      · exact hl
      · exact hr.elim
    unfold bxR at q11
    have z1 : sV L 0 = 0 := rfl
    have z2 : sC L 0 = 0 := rfl
    simp (contextual := true) (maxSteps := 10000000) (implicitDefEqProofs := false) [gw.all, ga.all, gs.all, gr.all, gb.all, gc.all, gp.all, callV_pu, qa, q7, q14, q11, kRet_tupsl, kRet_sl, execC_loop, -kIter_succ, -List.getElem?_map, kCond_kc, kc_kif, ↓kif_tr, ↓kif_fl, kif_tr, kif_fl, kif_same, ↓kif_not, ↓kif_or, ↓kifg_tr, ↓kifg_fl, ↓kifg_not, ↓kifg_or, ↓kifg_and, kifg_kif, kifB_t, kifB_f, kifB_ft, kifB_tt, kif_bool, kif_int, mergeL, mergeV, mergeS, mergeRs, kSeq_kif, kBlk_kif, kPost_kif, kNext_kif, kFin_kif, kReg_kif, kOps_kif, kO_kif, kG_kif, kDrw_kif, kW_kif, kOpsW_kif, kRet_kif, map_kif, bind_kif, kWant_t, kWant_f, kWant_kif, ↓execI_pick, kPick_bool, kPick_kif, ↓execI_iadr, kIadr_sl, ↓execI_idxs, kIdxs_str, ↓execI_len, ↓rdB_ld, kRd_ptr, kRd_tptr, kRd_tup, kRd_kif, kOpsW_bs, gt0, st0, gt1, st1, gt2, st2, gt3, st3, gt4, st4, gt5, st5, gt6, st6, gt7, st7, gt8, st8, -kWant_bool, -Int.not_le, -Int.not_lt, -decide_eq_true_eq, -decide_eq_false_iff_not, -List.getD_eq_getElem?_getD, -List.set_cons_succ, -List.set_cons_zero, -Bool.and_eq_true, -Bool.or_eq_true, -Bool.not_eq_eq_eq_not, -Bool.or_eq_false_iff, -Bool.and_eq_false_imp, -Bool.not_eq_true, -Bool.not_eq_false]
    rw [hl (1 + sC L L.length) false _ _ M1 (by simp (contextual := true) (maxSteps := 10000000) (implicitDefEqProofs := false) [T5, bxQ, bxR, z1, z2, tidy, gw.all, ga.all, gs.all, gr.all, gb.all, gc.all, gp.all, -List.getElem?_map, kCond_kc, kc_kif, ↓kif_tr, ↓kif_fl, kif_tr, kif_fl, kif_same, ↓kif_not, ↓kif_or, ↓kifg_tr, ↓kifg_fl, ↓kifg_not, ↓kifg_or, ↓kifg_and, kifg_kif, kifB_t, kifB_f, kifB_ft, kifB_tt, kif_bool, kif_int, mergeL, mergeV, mergeS, mergeRs, kSeq_kif, kBlk_kif, kPost_kif, kNext_kif, kFin_kif, kReg_kif, kOps_kif, kO_kif, kG_kif, kDrw_kif, kW_kif, kOpsW_kif, kRet_kif, map_kif, bind_kif, kWant_t, kWant_f, kWant_kif, ↓execI_pick, kPick_bool, kPick_kif, ↓execI_iadr, kIadr_sl, ↓execI_idxs, kIdxs_str, ↓execI_len, ↓rdB_ld, kRd_ptr, kRd_tptr, kRd_tup, kRd_kif, kOpsW_bs, gt0, st0, gt1, st1, gt2, st2, gt3, st3, gt4, st4, gt5, st5, gt6, st6, gt7, st7, gt8, st8, -kWant_bool, -Int.not_le, -Int.not_lt, -decide_eq_true_eq, -decide_eq_false_iff_not, -List.getD_eq_getElem?_getD, -List.set_cons_succ, -List.set_cons_zero, -Bool.and_eq_true, -Bool.or_eq_true, -Bool.not_eq_eq_eq_not, -Bool.or_eq_false_iff, -Bool.and_eq_false_imp, -Bool.not_eq_true, -Bool.not_eq_false])]
    unfold T5
    generalize sC L L.length = cc at *
    simp (contextual := true) (maxSteps := 10000000) (implicitDefEqProofs := false) [c5_b0, bxQ, hs1, gw.all, ga.all, gs.all, gr.all, gb.all, gc.all, gp.all, bxR_ren, bxR_box, kCond_kc, kc_kif, ↓kif_tr, ↓kif_fl, kif_tr, kif_fl, kif_same, ↓kif_not, ↓kif_or, ↓kifg_tr, ↓kifg_fl, ↓kifg_not, ↓kifg_or, ↓kifg_and, kifg_kif, kifB_t, kifB_f, kifB_ft, kifB_tt, kif_bool, kif_int, mergeL, mergeV, mergeS, mergeRs, kSeq_kif, kBlk_kif, kPost_kif, kNext_kif, kFin_kif, kReg_kif, kOps_kif, kO_kif, kG_kif, kDrw_kif, kW_kif, kOpsW_kif, kRet_kif, map_kif, bind_kif, kWant_t, kWant_f, kWant_kif, ↓execI_pick, kPick_bool, kPick_kif, ↓execI_iadr, kIadr_sl, ↓execI_idxs, kIdxs_str, ↓execI_len, ↓rdB_ld, kRd_ptr, kRd_tptr, kRd_tup, kRd_kif, kOpsW_bs, gt0, st0, gt1, st1, gt2, st2, gt3, st3, gt4, st4, gt5, st5, gt6, st6, gt7, st7, gt8, st8, -kWant_bool, -Int.not_le, -Int.not_lt, -decide_eq_true_eq, -decide_eq_false_iff_not, -List.getD_eq_getElem?_getD, -List.set_cons_succ, -List.set_cons_zero, -Bool.and_eq_true, -Bool.or_eq_true, -Bool.not_eq_eq_eq_not, -Bool.or_eq_false_iff, -Bool.and_eq_false_imp, -Bool.not_eq_true, -Bool.not_eq_false]
end Go.AM.Ytegibclhopenmaa
