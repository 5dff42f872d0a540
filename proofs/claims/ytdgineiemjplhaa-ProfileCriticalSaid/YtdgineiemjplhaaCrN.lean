/- The law ProfileCritical, run. -/
import Derived.Test.YtdgineiemjplhaaCrM
set_option linter.unusedVariables false
set_option linter.unusedSimpArgs false
namespace Go.AM.Ytdgineiemjplhaa
open Go Go.AM Go.Lib
set_option maxRecDepth 100000
set_option maxHeartbeats 0
attribute [local congr] kif_congr
def T9 (v w : V) (j : Nat) : St := ⟨[v, w, .undef, .undef, .undef, .int .i64 j, .undef, .undef, .undef, .undef, .undef, .undef, .undef, .undef, .undef, .undef, .undef, .undef, .undef, .undef, .undef, .undef, .undef, .undef, .undef, .undef], [], false⟩
theorem g9 (call : CallT) (K : Nat) (l : List Int) (hl : l.length ≤ 100000) (v w : V) (hv : Sl 1 (l.map ivs) v) (hw : Sl 1 (l.map ivs) w) (j : Nat) (hj : j < l.length) : Go1 (tidy [0, 1, 5] 0) (fun t => t = T9 v w (j + 1)) (fun _ => False) (execC call pu 0 K c9_b0 (T9 v w j)) := by
  have gv := Sl.ls hv
  have gw := Sl.ls hw
  have lv : lenV v = l.length := by rw [hv.len]; simp
  have lw : lenV w = l.length := by rw [hw.len]; simp
  have h1 : IntKind.i64.wrap ((j : Int) + 1) = (j : Int) + 1 := wrap64 (by omega) (by omega)
  have h3 : decide (l.length ≤ j) = false := by simp; omega
  have h4 : decide (j < l.length) = true := by simp; omega
  have r1 := Sl.row hv (i := j) (e := [.int .i64 l[j]]) (by simp [hj, ivs])
  have r2 := Sl.row hw (i := j) (e := [.int .i64 l[j]]) (by simp [hj, ivs])
  unfold c9_b0 c9_r0 c9_a0 T9
  simp (contextual := true) (maxSteps := 10000000) (implicitDefEqProofs := false) [lv, lw, h1, h3, h4, r1, r2, gv.all, gw.all, kIadr_LS gv, kIadr_LS gw, Go1_kif, Go1_ret, Go1_normal, Go1_exit, RtF_ret, ex_eq, ex_eq2, tidy, kCond_kc, kc_kif, ↓kif_tr, ↓kif_fl, kif_tr, kif_fl, kif_same, ↓kif_not, ↓kif_or, ↓kifg_tr, ↓kifg_fl, ↓kifg_not, ↓kifg_or, ↓kifg_and, kifg_kif, kifB_t, kifB_f, kifB_ft, kifB_tt, kif_bool, kif_int, mergeL, mergeV, mergeS, mergeRs, kSeq_kif, kBlk_kif, kPost_kif, kNext_kif, kFin_kif, kReg_kif, kOps_kif, kO_kif, kG_kif, kDrw_kif, kW_kif, kOpsW_kif, kRet_kif, map_kif, bind_kif, kWant_t, kWant_f, kWant_kif, ↓execI_pick, kPick_bool, kPick_kif, ↓execI_iadr, kIadr_sl, ↓execI_idxs, kIdxs_str, ↓execI_len, ↓rdB_ld, kRd_ptr, kRd_tptr, kRd_tup, kRd_kif, kOpsW_bs, gt0, st0, gt1, st1, gt2, st2, gt3, st3, gt4, st4, gt5, st5, gt6, st6, gt7, st7, gt8, st8, -kWant_bool, -Int.not_le, -Int.not_lt, -decide_eq_true_eq, -decide_eq_false_iff_not, -List.getD_eq_getElem?_getD, -List.set_cons_succ, -List.set_cons_zero, -Bool.and_eq_true, -Bool.or_eq_true, -Bool.not_eq_eq_eq_not, -Bool.or_eq_false_iff, -Bool.and_eq_false_imp, -Bool.not_eq_true, -Bool.not_eq_false]
theorem x9 (call : CallT) (K : Nat) (l : List Int) (v w : V) (hv : Sl 1 (l.map ivs) v) : Nn (execC call pu 0 K c9_b0 (T9 v w l.length)) := by
  have gv := Sl.ls hv
  have lv : lenV v = l.length := by rw [hv.len]; simp
  unfold c9_b0 T9
  simp (contextual := true) (maxSteps := 10000000) (implicitDefEqProofs := false) [lv, gv.all, Nn_exit, kCond_kc, kc_kif, ↓kif_tr, ↓kif_fl, kif_tr, kif_fl, kif_same, ↓kif_not, ↓kif_or, ↓kifg_tr, ↓kifg_fl, ↓kifg_not, ↓kifg_or, ↓kifg_and, kifg_kif, kifB_t, kifB_f, kifB_ft, kifB_tt, kif_bool, kif_int, mergeL, mergeV, mergeS, mergeRs, kSeq_kif, kBlk_kif, kPost_kif, kNext_kif, kFin_kif, kReg_kif, kOps_kif, kO_kif, kG_kif, kDrw_kif, kW_kif, kOpsW_kif, kRet_kif, map_kif, bind_kif, kWant_t, kWant_f, kWant_kif, ↓execI_pick, kPick_bool, kPick_kif, ↓execI_iadr, kIadr_sl, ↓execI_idxs, kIdxs_str, ↓execI_len, ↓rdB_ld, kRd_ptr, kRd_tptr, kRd_tup, kRd_kif, kOpsW_bs, gt0, st0, gt1, st1, gt2, st2, gt3, st3, gt4, st4, gt5, st5, gt6, st6, gt7, st7, gt8, st8, -kWant_bool, -Int.not_le, -Int.not_lt, -decide_eq_true_eq, -decide_eq_false_iff_not, -List.getD_eq_getElem?_getD, -List.set_cons_succ, -List.set_cons_zero, -Bool.and_eq_true, -Bool.or_eq_true, -Bool.not_eq_eq_eq_not, -Bool.or_eq_false_iff, -Bool.and_eq_false_imp, -Bool.not_eq_true, -Bool.not_eq_false]
theorem t9 (K : Nat) (l : List Int) (hl : l.length ≤ 100000) (hK : l.length < K) (v w : V) (hv : Sl 1 (l.map ivs) v) (hw : Sl 1 (l.map ivs) w) : callF tbl pu (K + 1) 9 [v, w] [] = some (.bool true, [], false) := by
  rw [callF_eq tbl9, c9]
  have gv := Sl.ls hv
  have gw := Sl.ls hw
  have lv : lenV v = l.length := by rw [hv.len]; simp
  have lw : lenV w = l.length := by rw [hw.len]; simp
  have h2 : decide ((l.length : Int) = l.length) = true := by simp
  rcases loop_to (T := fun j => T9 v w j) (R := fun _ => False) (pre := tidy [0, 1, 5] 0) (N := l.length) (fun j hj => g9 (callF tbl pu K) K l hl v w hv hw j hj) (x9 (callF tbl pu K) K l v w hv) with h | ⟨r, hr, _⟩
  case inr => exact hr.elim
  simp (contextual := true) (maxSteps := 10000000) (implicitDefEqProofs := false) [lv, lw, gv.all, gw.all, execC_loop, -kIter_succ, kCond_kc, kc_kif, ↓kif_tr, ↓kif_fl, kif_tr, kif_fl, kif_same, ↓kif_not, ↓kif_or, ↓kifg_tr, ↓kifg_fl, ↓kifg_not, ↓kifg_or, ↓kifg_and, kifg_kif, kifB_t, kifB_f, kifB_ft, kifB_tt, kif_bool, kif_int, mergeL, mergeV, mergeS, mergeRs, kSeq_kif, kBlk_kif, kPost_kif, kNext_kif, kFin_kif, kReg_kif, kOps_kif, kO_kif, kG_kif, kDrw_kif, kW_kif, kOpsW_kif, kRet_kif, map_kif, bind_kif, kWant_t, kWant_f, kWant_kif, ↓execI_pick, kPick_bool, kPick_kif, ↓execI_iadr, kIadr_sl, ↓execI_idxs, kIdxs_str, ↓execI_len, ↓rdB_ld, kRd_ptr, kRd_tptr, kRd_tup, kRd_kif, kOpsW_bs, gt0, st0, gt1, st1, gt2, st2, gt3, st3, gt4, st4, gt5, st5, gt6, st6, gt7, st7, gt8, st8, -kWant_bool, -Int.not_le, -Int.not_lt, -decide_eq_true_eq, -decide_eq_false_iff_not, -List.getD_eq_getElem?_getD, -List.set_cons_succ, -List.set_cons_zero, -Bool.and_eq_true, -Bool.or_eq_true, -Bool.not_eq_eq_eq_not, -Bool.or_eq_false_iff, -Bool.and_eq_false_imp, -Bool.not_eq_true, -Bool.not_eq_false]
  rw [h _ _ hK (by simp (contextual := true) (maxSteps := 10000000) (implicitDefEqProofs := false) [T9, tidy, gv.all, gw.all, kCond_kc, kc_kif, ↓kif_tr, ↓kif_fl, kif_tr, kif_fl, kif_same, ↓kif_not, ↓kif_or, ↓kifg_tr, ↓kifg_fl, ↓kifg_not, ↓kifg_or, ↓kifg_and, kifg_kif, kifB_t, kifB_f, kifB_ft, kifB_tt, kif_bool, kif_int, mergeL, mergeV, mergeS, mergeRs, kSeq_kif, kBlk_kif, kPost_kif, kNext_kif, kFin_kif, kReg_kif, kOps_kif, kO_kif, kG_kif, kDrw_kif, kW_kif, kOpsW_kif, kRet_kif, map_kif, bind_kif, kWant_t, kWant_f, kWant_kif, ↓execI_pick, kPick_bool, kPick_kif, ↓execI_iadr, kIadr_sl, ↓execI_idxs, kIdxs_str, ↓execI_len, ↓rdB_ld, kRd_ptr, kRd_tptr, kRd_tup, kRd_kif, kOpsW_bs, gt0, st0, gt1, st1, gt2, st2, gt3, st3, gt4, st4, gt5, st5, gt6, st6, gt7, st7, gt8, st8, -kWant_bool, -Int.not_le, -Int.not_lt, -decide_eq_true_eq, -decide_eq_false_iff_not, -List.getD_eq_getElem?_getD, -List.set_cons_succ, -List.set_cons_zero, -Bool.and_eq_true, -Bool.or_eq_true, -Bool.not_eq_eq_eq_not, -Bool.or_eq_false_iff, -Bool.and_eq_false_imp, -Bool.not_eq_true, -Bool.not_eq_false])]
  simp (contextual := true) (maxSteps := 10000000) (implicitDefEqProofs := false) [T9, c9_b0, lv, gv.all, gw.all, kCond_kc, kc_kif, ↓kif_tr, ↓kif_fl, kif_tr, kif_fl, kif_same, ↓kif_not, ↓kif_or, ↓kifg_tr, ↓kifg_fl, ↓kifg_not, ↓kifg_or, ↓kifg_and, kifg_kif, kifB_t, kifB_f, kifB_ft, kifB_tt, kif_bool, kif_int, mergeL, mergeV, mergeS, mergeRs, kSeq_kif, kBlk_kif, kPost_kif, kNext_kif, kFin_kif, kReg_kif, kOps_kif, kO_kif, kG_kif, kDrw_kif, kW_kif, kOpsW_kif, kRet_kif, map_kif, bind_kif, kWant_t, kWant_f, kWant_kif, ↓execI_pick, kPick_bool, kPick_kif, ↓execI_iadr, kIadr_sl, ↓execI_idxs, kIdxs_str, ↓execI_len, ↓rdB_ld, kRd_ptr, kRd_tptr, kRd_tup, kRd_kif, kOpsW_bs, gt0, st0, gt1, st1, gt2, st2, gt3, st3, gt4, st4, gt5, st5, gt6, st6, gt7, st7, gt8, st8, -kWant_bool, -Int.not_le, -Int.not_lt, -decide_eq_true_eq, -decide_eq_false_iff_not, -List.getD_eq_getElem?_getD, -List.set_cons_succ, -List.set_cons_zero, -Bool.and_eq_true, -Bool.or_eq_true, -Bool.not_eq_eq_eq_not, -Bool.or_eq_false_iff, -Bool.and_eq_false_imp, -Bool.not_eq_true, -Bool.not_eq_false]
def HUGE : Nat := 1000000000000000
theorem law3 (K : Nat) (hK : HUGE ≤ K) (f : Fl) (hf : f.Ok) (b : Bd) (hb : b.Ok) (hA : f.A.length ≤ 100000000000000) (hN : f.N.length ≤ 100000000000000) : ∃ H d, callF tbl pu (K + 6) 3 [f.v, b.v] [] = some (.bool true, H, d) := by
  unfold HUGE at hK
  have ga := Sl.ls hf.a
  have gr := Sl.ls hf.r
  have gn := Sl.ls hf.n
  have gc := Sl.ls hb
  have hln := lenN hf
  have hlc := lenC hb
  have qa : callF tbl pu (K + 5) 4 [] [] = some (.bool true, [], false) := by
    obtain ⟨k, hk⟩ : ∃ k, K + 5 = k + 40 := ⟨K - 35, by omega⟩
    rw [hk]; exact awakeK k
  obtain ⟨b5, d5, q5, h5⟩ : RB (smallP f 12 6) (callF tbl pu (K + 5) 5 [f.v, .int .i64 12, .int .i64 6] []) := by
    obtain ⟨k, hk⟩ : ∃ k, K + 5 = k + f.A.length + f.N.length + 10 := ⟨K - (f.A.length + f.N.length + 5), by omega⟩
    rw [hk]; exact d5L k f hf 12 6 hA hN
  rw [callF_eq tbl3, c3]
  unfold Fl.v Bd.v at *
  cases b5 with
  | false =>
    simp (contextual := true) (maxSteps := 10000000) (implicitDefEqProofs := false) [callV_pu, qa, q5, hln, hlc, ga.all, gr.all, gn.all, gc.all, kCond_kc, kc_kif, ↓kif_tr, ↓kif_fl, kif_tr, kif_fl, kif_same, ↓kif_not, ↓kif_or, ↓kifg_tr, ↓kifg_fl, ↓kifg_not, ↓kifg_or, ↓kifg_and, kifg_kif, kifB_t, kifB_f, kifB_ft, kifB_tt, kif_bool, kif_int, mergeL, mergeV, mergeS, mergeRs, kSeq_kif, kBlk_kif, kPost_kif, kNext_kif, kFin_kif, kReg_kif, kOps_kif, kO_kif, kG_kif, kDrw_kif, kW_kif, kOpsW_kif, kRet_kif, map_kif, bind_kif, kWant_t, kWant_f, kWant_kif, ↓execI_pick, kPick_bool, kPick_kif, ↓execI_iadr, kIadr_sl, ↓execI_idxs, kIdxs_str, ↓execI_len, ↓rdB_ld, kRd_ptr, kRd_tptr, kRd_tup, kRd_kif, kOpsW_bs, gt0, st0, gt1, st1, gt2, st2, gt3, st3, gt4, st4, gt5, st5, gt6, st6, gt7, st7, gt8, st8, -kWant_bool, -Int.not_le, -Int.not_lt, -decide_eq_true_eq, -decide_eq_false_iff_not, -List.getD_eq_getElem?_getD, -List.set_cons_succ, -List.set_cons_zero, -Bool.and_eq_true, -Bool.or_eq_true, -Bool.not_eq_eq_eq_not, -Bool.or_eq_false_iff, -Bool.and_eq_false_imp, -Bool.not_eq_true, -Bool.not_eq_false]
  | true =>
  obtain ⟨s1, s2, s3, s4, s5, s6⟩ := h5.1 rfl
  by_cases n1 : f.N.length ≤ 20
  case neg =>
    have e1 : decide (20 < (f.N.length : Int)) = true := by simp; omega
    have e1' : decide (20 < f.N.length) = true := by simp; omega
    simp (contextual := true) (maxSteps := 10000000) (implicitDefEqProofs := false) [callV_pu, qa, q5, hln, hlc, e1, e1', ga.all, gr.all, gn.all, gc.all, kCond_kc, kc_kif, ↓kif_tr, ↓kif_fl, kif_tr, kif_fl, kif_same, ↓kif_not, ↓kif_or, ↓kifg_tr, ↓kifg_fl, ↓kifg_not, ↓kifg_or, ↓kifg_and, kifg_kif, kifB_t, kifB_f, kifB_ft, kifB_tt, kif_bool, kif_int, mergeL, mergeV, mergeS, mergeRs, kSeq_kif, kBlk_kif, kPost_kif, kNext_kif, kFin_kif, kReg_kif, kOps_kif, kO_kif, kG_kif, kDrw_kif, kW_kif, kOpsW_kif, kRet_kif, map_kif, bind_kif, kWant_t, kWant_f, kWant_kif, ↓execI_pick, kPick_bool, kPick_kif, ↓execI_iadr, kIadr_sl, ↓execI_idxs, kIdxs_str, ↓execI_len, ↓rdB_ld, kRd_ptr, kRd_tptr, kRd_tup, kRd_kif, kOpsW_bs, gt0, st0, gt1, st1, gt2, st2, gt3, st3, gt4, st4, gt5, st5, gt6, st6, gt7, st7, gt8, st8, -kWant_bool, -Int.not_le, -Int.not_lt, -decide_eq_true_eq, -decide_eq_false_iff_not, -List.getD_eq_getElem?_getD, -List.set_cons_succ, -List.set_cons_zero, -Bool.and_eq_true, -Bool.or_eq_true, -Bool.not_eq_eq_eq_not, -Bool.or_eq_false_iff, -Bool.and_eq_false_imp, -Bool.not_eq_true, -Bool.not_eq_false]
  have e1 : decide (20 < (f.N.length : Int)) = false := by simp; omega
  have e1' : decide (20 < f.N.length) = false := by simp; omega
  by_cases n2 : b.C.length ≤ 30
  case neg =>
    have e2 : decide (30 < (b.C.length : Int)) = true := by simp; omega
    have e2' : decide (30 < b.C.length) = true := by simp; omega
    simp (contextual := true) (maxSteps := 10000000) (implicitDefEqProofs := false) [callV_pu, qa, q5, hln, hlc, e1, e1', e2, e2', ga.all, gr.all, gn.all, gc.all, kCond_kc, kc_kif, ↓kif_tr, ↓kif_fl, kif_tr, kif_fl, kif_same, ↓kif_not, ↓kif_or, ↓kifg_tr, ↓kifg_fl, ↓kifg_not, ↓kifg_or, ↓kifg_and, kifg_kif, kifB_t, kifB_f, kifB_ft, kifB_tt, kif_bool, kif_int, mergeL, mergeV, mergeS, mergeRs, kSeq_kif, kBlk_kif, kPost_kif, kNext_kif, kFin_kif, kReg_kif, kOps_kif, kO_kif, kG_kif, kDrw_kif, kW_kif, kOpsW_kif, kRet_kif, map_kif, bind_kif, kWant_t, kWant_f, kWant_kif, ↓execI_pick, kPick_bool, kPick_kif, ↓execI_iadr, kIadr_sl, ↓execI_idxs, kIdxs_str, ↓execI_len, ↓rdB_ld, kRd_ptr, kRd_tptr, kRd_tup, kRd_kif, kOpsW_bs, gt0, st0, gt1, st1, gt2, st2, gt3, st3, gt4, st4, gt5, st5, gt6, st6, gt7, st7, gt8, st8, -kWant_bool, -Int.not_le, -Int.not_lt, -decide_eq_true_eq, -decide_eq_false_iff_not, -List.getD_eq_getElem?_getD, -List.set_cons_succ, -List.set_cons_zero, -Bool.and_eq_true, -Bool.or_eq_true, -Bool.not_eq_eq_eq_not, -Bool.or_eq_false_iff, -Bool.and_eq_false_imp, -Bool.not_eq_true, -Bool.not_eq_false]
  have e2 : decide (30 < (b.C.length : Int)) = false := by simp; omega
  have e2' : decide (30 < b.C.length) = false := by simp; omega
  have hE : Env f b := ⟨hf, hb, s5, s6, n1, n2, s1⟩
  obtain ⟨b7, d7', q7, h7⟩ : RB (validP f) (callF tbl pu (K + 5) 7 [f.v] []) := by
    obtain ⟨k, hk⟩ : ∃ k, K + 5 = k + f.A.length + f.R.length + f.N.length + 10020 := ⟨K - (f.A.length + f.R.length + f.N.length + 10015), by omega⟩
    rw [hk]; exact d7 k f hf (by omega) (by omega) (by omega)
  unfold Fl.v at q7
  by_cases hv : validP f
  case neg =>
    have hb7 : b7 = false := by
      cases b7 with
      | false => rfl
      | true => exact absurd (h7.1 rfl) hv
    subst hb7
    obtain ⟨d6, q6⟩ := tot6n K (by omega) f b hE (fun h => hv h.1.1)
    unfold Fl.v Bd.v at q6
    simp (contextual := true) (maxSteps := 10000000) (implicitDefEqProofs := false) [callV_pu, qa, q5, q6, q7, hln, hlc, e1, e1', e2, e2', ga.all, gr.all, gn.all, gc.all, kCond_kc, kc_kif, ↓kif_tr, ↓kif_fl, kif_tr, kif_fl, kif_same, ↓kif_not, ↓kif_or, ↓kifg_tr, ↓kifg_fl, ↓kifg_not, ↓kifg_or, ↓kifg_and, kifg_kif, kifB_t, kifB_f, kifB_ft, kifB_tt, kif_bool, kif_int, mergeL, mergeV, mergeS, mergeRs, kSeq_kif, kBlk_kif, kPost_kif, kNext_kif, kFin_kif, kReg_kif, kOps_kif, kO_kif, kG_kif, kDrw_kif, kW_kif, kOpsW_kif, kRet_kif, map_kif, bind_kif, kWant_t, kWant_f, kWant_kif, ↓execI_pick, kPick_bool, kPick_kif, ↓execI_iadr, kIadr_sl, ↓execI_idxs, kIdxs_str, ↓execI_len, ↓rdB_ld, kRd_ptr, kRd_tptr, kRd_tup, kRd_kif, kOpsW_bs, gt0, st0, gt1, st1, gt2, st2, gt3, st3, gt4, st4, gt5, st5, gt6, st6, gt7, st7, gt8, st8, -kWant_bool, -Int.not_le, -Int.not_lt, -decide_eq_true_eq, -decide_eq_false_iff_not, -List.getD_eq_getElem?_getD, -List.set_cons_succ, -List.set_cons_zero, -Bool.and_eq_true, -Bool.or_eq_true, -Bool.not_eq_eq_eq_not, -Bool.or_eq_false_iff, -Bool.and_eq_false_imp, -Bool.not_eq_true, -Bool.not_eq_false]
  obtain rfl := h7.2 hv
  cases hlp : f.loop with
  | false =>
    obtain ⟨d6, q6⟩ := tot6n K (by omega) f b hE (fun h => by rw [hlp] at h; cases h.1.2)
    unfold Fl.v Bd.v at q6
    rw [hlp] at q5 q6 q7
    simp (contextual := true) (maxSteps := 10000000) (implicitDefEqProofs := false) [callV_pu, qa, q5, q6, q7, hln, hlc, e1, e1', e2, e2', ga.all, gr.all, gn.all, gc.all, kCond_kc, kc_kif, ↓kif_tr, ↓kif_fl, kif_tr, kif_fl, kif_same, ↓kif_not, ↓kif_or, ↓kifg_tr, ↓kifg_fl, ↓kifg_not, ↓kifg_or, ↓kifg_and, kifg_kif, kifB_t, kifB_f, kifB_ft, kifB_tt, kif_bool, kif_int, mergeL, mergeV, mergeS, mergeRs, kSeq_kif, kBlk_kif, kPost_kif, kNext_kif, kFin_kif, kReg_kif, kOps_kif, kO_kif, kG_kif, kDrw_kif, kW_kif, kOpsW_kif, kRet_kif, map_kif, bind_kif, kWant_t, kWant_f, kWant_kif, ↓execI_pick, kPick_bool, kPick_kif, ↓execI_iadr, kIadr_sl, ↓execI_idxs, kIdxs_str, ↓execI_len, ↓rdB_ld, kRd_ptr, kRd_tptr, kRd_tup, kRd_kif, kOpsW_bs, gt0, st0, gt1, st1, gt2, st2, gt3, st3, gt4, st4, gt5, st5, gt6, st6, gt7, st7, gt8, st8, -kWant_bool, -Int.not_le, -Int.not_lt, -decide_eq_true_eq, -decide_eq_false_iff_not, -List.getD_eq_getElem?_getD, -List.set_cons_succ, -List.set_cons_zero, -Bool.and_eq_true, -Bool.or_eq_true, -Bool.not_eq_eq_eq_not, -Bool.or_eq_false_iff, -Bool.and_eq_false_imp, -Bool.not_eq_true, -Bool.not_eq_false]
  | true =>
    obtain ⟨b8, d8, q8, h8⟩ := tot8 (K + 1) (by omega) f b hE hv
    unfold Fl.v Bd.v at q8
    rw [hlp] at q5 q7 q8
    by_cases hac : AccP f b
    case neg =>
      have hb8 : b8 = false := by
        cases b8 with
        | false => rfl
        | true => exact absurd (h8.1 rfl) hac
      subst hb8
      obtain ⟨d6, q6⟩ := tot6n K (by omega) f b hE (fun h => hac h.2)
      unfold Fl.v Bd.v at q6
      rw [hlp] at q6
      simp (contextual := true) (maxSteps := 10000000) (implicitDefEqProofs := false) [callV_pu, qa, q5, q6, q7, q8, hln, hlc, e1, e1', e2, e2', ga.all, gr.all, gn.all, gc.all, kCond_kc, kc_kif, ↓kif_tr, ↓kif_fl, kif_tr, kif_fl, kif_same, ↓kif_not, ↓kif_or, ↓kifg_tr, ↓kifg_fl, ↓kifg_not, ↓kifg_or, ↓kifg_and, kifg_kif, kifB_t, kifB_f, kifB_ft, kifB_tt, kif_bool, kif_int, mergeL, mergeV, mergeS, mergeRs, kSeq_kif, kBlk_kif, kPost_kif, kNext_kif, kFin_kif, kReg_kif, kOps_kif, kO_kif, kG_kif, kDrw_kif, kW_kif, kOpsW_kif, kRet_kif, map_kif, bind_kif, kWant_t, kWant_f, kWant_kif, ↓execI_pick, kPick_bool, kPick_kif, ↓execI_iadr, kIadr_sl, ↓execI_idxs, kIdxs_str, ↓execI_len, ↓rdB_ld, kRd_ptr, kRd_tptr, kRd_tup, kRd_kif, kOpsW_bs, gt0, st0, gt1, st1, gt2, st2, gt3, st3, gt4, st4, gt5, st5, gt6, st6, gt7, st7, gt8, st8, -kWant_bool, -Int.not_le, -Int.not_lt, -decide_eq_true_eq, -decide_eq_false_iff_not, -List.getD_eq_getElem?_getD, -List.set_cons_succ, -List.set_cons_zero, -Bool.and_eq_true, -Bool.or_eq_true, -Bool.not_eq_eq_eq_not, -Bool.or_eq_false_iff, -Bool.and_eq_false_imp, -Bool.not_eq_true, -Bool.not_eq_false]
    obtain rfl := h8.2 hac
    have hin : b.kd = 2 → ∀ k, k < b.C.length → inr f.A b.C k := fun k2 k hk => by
      obtain ⟨-, -, h⟩ := hac
      rcases h with h | h | h | h
      · omega
      · exact (h.2.2.1 k hk).1
      · omega
      · omega
    obtain ⟨v6, H6, d6, g6, q6⟩ := tot6 K (by omega) f b hE hv hlp hac
    obtain ⟨v10, H10, d10, g10, q10⟩ := tot10 (K + 4) (by omega) f b hE hv hin
    unfold Fl.v Bd.v at q6 q10
    rw [hlp] at q6 q10
    have hcl := crL_len f b f.N.length
    generalize crL f b f.N.length = R at *
    rcases g6 with ⟨rfl, rfl, rfl⟩ | ⟨p6, L6, es6, rfl, rfl, a1, a2, a3⟩
    · rcases g10 with ⟨-, rfl, rfl⟩ | ⟨p10, -⟩
      case inr => simp at p10
      have q9 := t9 (K + 4) [] (by simp) (by simp) .nils .nils (.inl ⟨rfl, rfl⟩) (.inl ⟨rfl, rfl⟩)
      simp (contextual := true) (maxSteps := 10000000) (implicitDefEqProofs := false) [callV_pu, qa, q5, q6, q7, q8, q9, q10, hln, hlc, e1, e1', e2, e2', ga.all, gr.all, gn.all, gc.all, kCond_kc, kc_kif, ↓kif_tr, ↓kif_fl, kif_tr, kif_fl, kif_same, ↓kif_not, ↓kif_or, ↓kifg_tr, ↓kifg_fl, ↓kifg_not, ↓kifg_or, ↓kifg_and, kifg_kif, kifB_t, kifB_f, kifB_ft, kifB_tt, kif_bool, kif_int, mergeL, mergeV, mergeS, mergeRs, kSeq_kif, kBlk_kif, kPost_kif, kNext_kif, kFin_kif, kReg_kif, kOps_kif, kO_kif, kG_kif, kDrw_kif, kW_kif, kOpsW_kif, kRet_kif, map_kif, bind_kif, kWant_t, kWant_f, kWant_kif, ↓execI_pick, kPick_bool, kPick_kif, ↓execI_iadr, kIadr_sl, ↓execI_idxs, kIdxs_str, ↓execI_len, ↓rdB_ld, kRd_ptr, kRd_tptr, kRd_tup, kRd_kif, kOpsW_bs, gt0, st0, gt1, st1, gt2, st2, gt3, st3, gt4, st4, gt5, st5, gt6, st6, gt7, st7, gt8, st8, -kWant_bool, -Int.not_le, -Int.not_lt, -decide_eq_true_eq, -decide_eq_false_iff_not, -List.getD_eq_getElem?_getD, -List.set_cons_succ, -List.set_cons_zero, -Bool.and_eq_true, -Bool.or_eq_true, -Bool.not_eq_eq_eq_not, -Bool.or_eq_false_iff, -Bool.and_eq_false_imp, -Bool.not_eq_true, -Bool.not_eq_false]
    · rcases g10 with ⟨rfl, -, -⟩ | ⟨p10, L10, es10, rfl, rfl, c1, c2, c3⟩
      · simp at p6
      have q9 := t9 (K + 4) R (by omega) (by omega) (.tsl 1 (R.map ivs)) (.tsl 1 (R.map ivs)) (.inr rfl) (.inr rfl)
      simp (contextual := true) (maxSteps := 10000000) (implicitDefEqProofs := false) [callV_pu, qa, q5, q6, q7, q8, q9, q10, kRet_sl, a1, a2, a3, c1, c2, c3, List.drop_zero, hln, hlc, e1, e1', e2, e2', ga.all, gr.all, gn.all, gc.all, kCond_kc, kc_kif, ↓kif_tr, ↓kif_fl, kif_tr, kif_fl, kif_same, ↓kif_not, ↓kif_or, ↓kifg_tr, ↓kifg_fl, ↓kifg_not, ↓kifg_or, ↓kifg_and, kifg_kif, kifB_t, kifB_f, kifB_ft, kifB_tt, kif_bool, kif_int, mergeL, mergeV, mergeS, mergeRs, kSeq_kif, kBlk_kif, kPost_kif, kNext_kif, kFin_kif, kReg_kif, kOps_kif, kO_kif, kG_kif, kDrw_kif, kW_kif, kOpsW_kif, kRet_kif, map_kif, bind_kif, kWant_t, kWant_f, kWant_kif, ↓execI_pick, kPick_bool, kPick_kif, ↓execI_iadr, kIadr_sl, ↓execI_idxs, kIdxs_str, ↓execI_len, ↓rdB_ld, kRd_ptr, kRd_tptr, kRd_tup, kRd_kif, kOpsW_bs, gt0, st0, gt1, st1, gt2, st2, gt3, st3, gt4, st4, gt5, st5, gt6, st6, gt7, st7, gt8, st8, -kWant_bool, -Int.not_le, -Int.not_lt, -decide_eq_true_eq, -decide_eq_false_iff_not, -List.getD_eq_getElem?_getD, -List.set_cons_succ, -List.set_cons_zero, -Bool.and_eq_true, -Bool.or_eq_true, -Bool.not_eq_eq_eq_not, -Bool.or_eq_false_iff, -Bool.and_eq_false_imp, -Bool.not_eq_true, -Bool.not_eq_false]
end Go.AM.Ytdgineiemjplhaa
