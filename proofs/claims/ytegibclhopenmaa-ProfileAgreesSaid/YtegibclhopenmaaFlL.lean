/- jacquardref08.Valid: the round over instructions. -/
import Derived.Test.YtegibclhopenmaaFlJ
set_option linter.unusedVariables false
set_option linter.unusedSimpArgs false
namespace Go.AM.Ytegibclhopenmaa
open Go Go.AM
set_option maxRecDepth 100000
set_option maxHeartbeats 0
attribute [local congr] kif_congr
def A29 (w : Int) : Int := qi 29 2 [.int .i64 w]
def D29 (w : Int) : Bool := qd 29 2 [.int .i64 w]
theorem fu29 (k : Nat) (w : Int) : callF tbl pu (k + 2) 29 [.int .i64 w] [] = callF tbl pu 2 29 [.int .i64 w] [] := by
  rw [callF_eq tbl29, callF_eq (k := 1) tbl29, c29]
  simp (contextual := true) (maxSteps := 10000000) (implicitDefEqProofs := false) [callV_pu, eq42, eq42 0, kCond_kc, kc_kif, ↓kif_tr, ↓kif_fl, kif_tr, kif_fl, kif_same, ↓kif_not, ↓kif_or, ↓kifg_tr, ↓kifg_fl, ↓kifg_not, ↓kifg_or, ↓kifg_and, kifg_kif, kifB_t, kifB_f, kifB_ft, kifB_tt, kif_bool, kif_int, mergeL, mergeV, mergeS, mergeRs, kSeq_kif, kBlk_kif, kPost_kif, kNext_kif, kFin_kif, kReg_kif, kOps_kif, kO_kif, kG_kif, kDrw_kif, kW_kif, kOpsW_kif, kRet_kif, map_kif, bind_kif, kWant_t, kWant_f, kWant_kif, ↓execI_pick, kPick_bool, kPick_kif, ↓execI_iadr, kIadr_sl, ↓execI_idxs, kIdxs_str, ↓execI_len, ↓rdB_ld, kRd_ptr, kRd_tptr, kRd_tup, kRd_kif, kOpsW_bs, gt0, st0, gt1, st1, gt2, st2, gt3, st3, gt4, st4, gt5, st5, gt6, st6, gt7, st7, gt8, st8, -kWant_bool, -Int.not_le, -Int.not_lt, -decide_eq_true_eq, -decide_eq_false_iff_not, -List.getD_eq_getElem?_getD, -List.set_cons_succ, -List.set_cons_zero, -Bool.and_eq_true, -Bool.or_eq_true, -Bool.not_eq_eq_eq_not, -Bool.or_eq_false_iff, -Bool.and_eq_false_imp, -Bool.not_eq_true, -Bool.not_eq_false]
theorem f29 (k : Nat) (w : Int) : callF tbl pu (k + 2) 29 [.int .i64 w] [] = some (.int .i64 (A29 w), [], D29 w) := by
  rw [fu29]; exact eq29 0 w
theorem A29_le (w : Int) : A29 w ≤ 3 := rtI_p (tot29 0 w)
def R31 (w : Int) : Bool := qb 31 3 [.int .i64 w]
def D31 (w : Int) : Bool := qd 31 3 [.int .i64 w]
theorem fu31 (k : Nat) (w : Int) : callF tbl pu (k + 3) 31 [.int .i64 w] [] = callF tbl pu 3 31 [.int .i64 w] [] := by
  rw [callF_eq tbl31, callF_eq (k := 2) tbl31, c31]
  simp (contextual := true) (maxSteps := 10000000) (implicitDefEqProofs := false) [callV_pu, f29, f29 0, kCond_kc, kc_kif, ↓kif_tr, ↓kif_fl, kif_tr, kif_fl, kif_same, ↓kif_not, ↓kif_or, ↓kifg_tr, ↓kifg_fl, ↓kifg_not, ↓kifg_or, ↓kifg_and, kifg_kif, kifB_t, kifB_f, kifB_ft, kifB_tt, kif_bool, kif_int, mergeL, mergeV, mergeS, mergeRs, kSeq_kif, kBlk_kif, kPost_kif, kNext_kif, kFin_kif, kReg_kif, kOps_kif, kO_kif, kG_kif, kDrw_kif, kW_kif, kOpsW_kif, kRet_kif, map_kif, bind_kif, kWant_t, kWant_f, kWant_kif, ↓execI_pick, kPick_bool, kPick_kif, ↓execI_iadr, kIadr_sl, ↓execI_idxs, kIdxs_str, ↓execI_len, ↓rdB_ld, kRd_ptr, kRd_tptr, kRd_tup, kRd_kif, kOpsW_bs, gt0, st0, gt1, st1, gt2, st2, gt3, st3, gt4, st4, gt5, st5, gt6, st6, gt7, st7, gt8, st8, -kWant_bool, -Int.not_le, -Int.not_lt, -decide_eq_true_eq, -decide_eq_false_iff_not, -List.getD_eq_getElem?_getD, -List.set_cons_succ, -List.set_cons_zero, -Bool.and_eq_true, -Bool.or_eq_true, -Bool.not_eq_eq_eq_not, -Bool.or_eq_false_iff, -Bool.and_eq_false_imp, -Bool.not_eq_true, -Bool.not_eq_false]
theorem f31 (k : Nat) (w : Int) : callF tbl pu (k + 3) 31 [.int .i64 w] [] = some (.bool (R31 w), [], D31 w) := by
  rw [fu31]; exact eq31 0 w
theorem q31_R (k : Nat) (w : Int) : qb 31 (k + 3) [.int .i64 w] = R31 w := by
  unfold R31 qb
  rw [fu31]
end Go.AM.Ytegibclhopenmaa

set_option linter.unusedVariables false
set_option linter.unusedSimpArgs false
namespace Go.AM.Ytegibclhopenmaa
open Go Go.AM
set_option maxRecDepth 100000
set_option maxHeartbeats 0
attribute [local congr] kif_congr
def T16i (n b : Nat) (H : Heap) (j : Nat) (d : Bool) : St := ⟨[.undef, .ptr 0 1 0 0, .undef, .sl 1 1 n 0 n, .int .i64 b, .ptr 2 1 0 0, .sl 1 3 n 0 n, .undef, .undef, .int .i64 j, .undef, .undef, .undef, .undef, .undef, .undef, .undef, .undef, .undef, .undef, .undef, .undef, .undef, .undef, .undef, .undef, .undef, .undef, .undef, .undef, .undef, .undef, .undef, .undef, .undef, .undef, .undef, .undef, .undef, .undef, .undef, .undef, .undef, .undef, .undef, .undef, .undef, .undef, .undef, .undef, .undef, .undef, .undef, .undef, .undef, .undef, .undef, .undef, .undef, .undef, .undef, .undef, .undef, .undef, .undef, .undef, .undef, .undef, .undef, .undef, .undef, .undef, .undef, .undef, .undef, .undef, .undef, .undef, .undef, .undef, .undef, .undef, .undef, .undef, .undef, .undef, .undef, .undef, .undef, .undef, .undef, .undef, .undef, .undef, .undef, .undef, .undef, .undef, .undef, .undef, .undef, .undef, .undef, .undef, .undef, .undef, .undef, .undef, .undef, .undef, .undef, .undef, .undef, .undef, .undef, .undef, .undef, .undef, .undef, .undef, .undef, .undef, .undef, .undef, .undef, .undef, .undef, .undef, .undef, .undef, .undef, .undef, .undef, .undef, .undef, .undef, .undef, .undef, .undef, .undef, .undef, .undef, .undef, .undef, .undef, .undef, .undef, .undef, .undef, .undef, .undef, .undef, .undef, .undef, .undef, .undef, .undef, .undef, .undef, .undef, .undef, .undef, .undef, .undef, .undef, .undef, .undef, .undef, .undef, .undef, .undef, .undef, .undef, .undef, .undef, .undef, .undef, .undef, .undef, .undef, .undef, .undef, .undef, .undef, .undef, .undef, .undef, .undef, .undef, .undef, .undef, .undef, .undef, .undef, .undef, .undef, .undef, .undef, .undef, .undef, .undef, .undef], H, d⟩
def I16i (B X : Blk) (n b j : Nat) (t : St) : Prop := ∃ ds ks d, BS n ds ∧ BS n ks ∧ t = T16i n b [B, bxD ds, X, bxD ks] j d
theorem g16i (K : Nat) (hK : BIG ≤ K) (nm : ByteArray) (w ar st rt bl : V) (h : OkF nm w ar st rt bl) (ps iss : V) (tk tc : Int) (to rs : V) (pi un li : Int) (hx : OkX ps iss tc to rs) (b j : Nat) (hj : j < lenV iss) (t : St) (ht : I16i (bxF nm w ar st rt bl) (bxX ps iss tk tc to rs pi un li) (lenV w) b j t) : Go1 (tidy [1, 3, 4, 5, 6, 9] 0) (I16i (bxF nm w ar st rt bl) (bxX ps iss tk tc to rs pi un li) (lenV w) b (j + 1)) (RtF 2) (execC (callF tbl pu (K + 4)) pu 0 (K + 4) c16_b0 t) := by
  obtain ⟨ds, ks, d, hd, hk, rfl⟩ := ht
  have gw := LS22 h.w
  have ga := LS23 h.ar
  have gs := LS24 h.st
  have gr := LS22 h.rt
  have gb := LS25 h.bl
  have xp := LS22 hx.p
  have xi := LS88 hx.i
  have xt := LS85 hx.t
  have xr := LS22 hx.r
  have hL := len88 hx.i
  simp only [LMAX] at hL
  have hdl := hd.1
  have hkl := hk.1
  have h1 : IntKind.i64.wrap ((j : Int) + 1) = (j : Int) + 1 := wrap64 (by omega) (by omega)
  have h3 : decide (lenV iss ≤ j) = false := by simp; omega
  have h4 : decide (j < lenV iss) = true := by simp; omega
  obtain ⟨hrow, -, -, ha, -, -⟩ := e88 hx.i hj
  have gA := LS22 ha
  have q28 := eq28 (K + 3) nm w ar st rt bl h (ic iss j 1)
  have hkb : KB (lenV w) (.tsl 1 ks) := BS_KB hk
  have tak : ks.take (lenV w) = ks := List.take_of_length_le (by omega)
  have q30 := eq30 (K + 2) (big_add 2 hK) nm w ar st rt bl h (cel iss j 2) (.tsl 1 ks) ha hkb
  have pp := p30 (K + 2) (big_add 2 hK) nm w ar st rt bl h (cel iss j 2) (.tsl 1 ks) ha hkb
  have q29 := f29 (K + 2) (ic iss j 0)
  have q31 := f31 (K + 1) (ic iss j 0)
  have q32 := eq32 K hK nm w ar st rt bl h (ic iss j 0) (ic iss j 1) (cel iss j 2) (ic iss j 3) (ic iss j 4) ha
  have hA := A29_le (ic iss j 0)
  rw [q31_R] at q32
  generalize ic iss j 0 = op at *
  generalize ic iss j 1 = de at *
  generalize cel iss j 2 = aa at *
  generalize ic iss j 3 = nu at *
  generalize ic iss j 4 = me at *
  generalize A29 op = n29 at *
  by_cases c1 : n29 = lenV aa
  case neg =>
    have c1' : decide (n29 = (lenV aa : Int)) = false := by simp [c1]
    unfold c16_b0 c16_r0 c16_a0 T16i bxF bxD bxX
    simp (contextual := true) (maxSteps := 10000000) (implicitDefEqProofs := false) [h1, h3, h4, hdl, hkl, hrow, c1', gw.all, ga.all, gs.all, gr.all, gb.all, xp.all, xi.all, xt.all, xr.all, gA.all, kIadr_LS xi, callV_pu, q29, snap1_sl, snap_sl, tak, freezeH, Go1_kif, Go1_ret, Go1_normal, Go1_exit, RtF_ret, ex_eq, ex_eq2, tidy, kCond_kc, kc_kif, ↓kif_tr, ↓kif_fl, kif_tr, kif_fl, kif_same, ↓kif_not, ↓kif_or, ↓kifg_tr, ↓kifg_fl, ↓kifg_not, ↓kifg_or, ↓kifg_and, kifg_kif, kifB_t, kifB_f, kifB_ft, kifB_tt, kif_bool, kif_int, mergeL, mergeV, mergeS, mergeRs, kSeq_kif, kBlk_kif, kPost_kif, kNext_kif, kFin_kif, kReg_kif, kOps_kif, kO_kif, kG_kif, kDrw_kif, kW_kif, kOpsW_kif, kRet_kif, map_kif, bind_kif, kWant_t, kWant_f, kWant_kif, ↓execI_pick, kPick_bool, kPick_kif, ↓execI_iadr, kIadr_sl, ↓execI_idxs, kIdxs_str, ↓execI_len, ↓rdB_ld, kRd_ptr, kRd_tptr, kRd_tup, kRd_kif, kOpsW_bs, gt0, st0, gt1, st1, gt2, st2, gt3, st3, gt4, st4, gt5, st5, gt6, st6, gt7, st7, gt8, st8, -kWant_bool, -Int.not_le, -Int.not_lt, -decide_eq_true_eq, -decide_eq_false_iff_not, -List.getD_eq_getElem?_getD, -List.set_cons_succ, -List.set_cons_zero, -Bool.and_eq_true, -Bool.or_eq_true, -Bool.not_eq_eq_eq_not, -Bool.or_eq_false_iff, -Bool.and_eq_false_imp, -Bool.not_eq_true, -Bool.not_eq_false]
  subst c1
  generalize hq : qb 30 (K + 2 + 2) [.agg [.str nm, w, ar, st, rt, bl], aa, .tsl 1 ks] = q at q30 pp
  cases q with
  | false =>
    unfold c16_b0 c16_r0 c16_a0 T16i bxF bxD bxX
    simp (contextual := true) (maxSteps := 10000000) (implicitDefEqProofs := false) [h1, h3, h4, hdl, hkl, hrow, gw.all, ga.all, gs.all, gr.all, gb.all, xp.all, xi.all, xt.all, xr.all, gA.all, kIadr_LS xi, callV_pu, q29, q30, snap1_sl, snap_sl, tak, freezeH, Go1_kif, Go1_ret, Go1_normal, Go1_exit, RtF_ret, ex_eq, ex_eq2, tidy, kCond_kc, kc_kif, ↓kif_tr, ↓kif_fl, kif_tr, kif_fl, kif_same, ↓kif_not, ↓kif_or, ↓kifg_tr, ↓kifg_fl, ↓kifg_not, ↓kifg_or, ↓kifg_and, kifg_kif, kifB_t, kifB_f, kifB_ft, kifB_tt, kif_bool, kif_int, mergeL, mergeV, mergeS, mergeRs, kSeq_kif, kBlk_kif, kPost_kif, kNext_kif, kFin_kif, kReg_kif, kOps_kif, kO_kif, kG_kif, kDrw_kif, kW_kif, kOpsW_kif, kRet_kif, map_kif, bind_kif, kWant_t, kWant_f, kWant_kif, ↓execI_pick, kPick_bool, kPick_kif, ↓execI_iadr, kIadr_sl, ↓execI_idxs, kIdxs_str, ↓execI_len, ↓rdB_ld, kRd_ptr, kRd_tptr, kRd_tup, kRd_kif, kOpsW_bs, gt0, st0, gt1, st1, gt2, st2, gt3, st3, gt4, st4, gt5, st5, gt6, st6, gt7, st7, gt8, st8, -kWant_bool, -Int.not_le, -Int.not_lt, -decide_eq_true_eq, -decide_eq_false_iff_not, -List.getD_eq_getElem?_getD, -List.set_cons_succ, -List.set_cons_zero, -Bool.and_eq_true, -Bool.or_eq_true, -Bool.not_eq_eq_eq_not, -Bool.or_eq_false_iff, -Bool.and_eq_false_imp, -Bool.not_eq_true, -Bool.not_eq_false]
  | true =>
    have hin := pp rfl
    have h3' : lenV aa ≤ 3 := by omega
    have q32 := q32 h3' hin
    generalize R31 op = r31 at *
    cases r31 with
    | false =>
      have q32 := q32 (fun hh => by cases hh)
      have fin : ∀ d, I16i (bxF nm w ar st rt bl) (bxX ps iss tk tc to rs pi un li) (lenV w) b (j + 1) (T16i (lenV w) b [bxF nm w ar st rt bl, bxD ds, bxX ps iss tk tc to rs pi un li, bxD ks] (j + 1) d) := fun d => ⟨_, _, _, hd, hk, rfl⟩
      generalize I16i (bxF nm w ar st rt bl) (bxX ps iss tk tc to rs pi un li) (lenV w) b (j + 1) = II at fin ⊢
      simp only [T16i, bxF, bxD, bxX, Int.natCast_add, Int.natCast_one] at fin
      unfold c16_b0 c16_r0 c16_a0 T16i bxF bxD bxX
      simp (contextual := true) (maxSteps := 10000000) (implicitDefEqProofs := false) [h1, h3, h4, hdl, hkl, hrow, gw.all, ga.all, gs.all, gr.all, gb.all, xp.all, xi.all, xt.all, xr.all, gA.all, kIadr_LS xi, callV_pu, q29, q30, q31, q32, snap1_sl, snap_sl, tak, freezeH, fin, Go1_kif, Go1_ret, Go1_normal, Go1_exit, RtF_ret, ex_eq, ex_eq2, tidy, kCond_kc, kc_kif, ↓kif_tr, ↓kif_fl, kif_tr, kif_fl, kif_same, ↓kif_not, ↓kif_or, ↓kifg_tr, ↓kifg_fl, ↓kifg_not, ↓kifg_or, ↓kifg_and, kifg_kif, kifB_t, kifB_f, kifB_ft, kifB_tt, kif_bool, kif_int, mergeL, mergeV, mergeS, mergeRs, kSeq_kif, kBlk_kif, kPost_kif, kNext_kif, kFin_kif, kReg_kif, kOps_kif, kO_kif, kG_kif, kDrw_kif, kW_kif, kOpsW_kif, kRet_kif, map_kif, bind_kif, kWant_t, kWant_f, kWant_kif, ↓execI_pick, kPick_bool, kPick_kif, ↓execI_iadr, kIadr_sl, ↓execI_idxs, kIdxs_str, ↓execI_len, ↓rdB_ld, kRd_ptr, kRd_tptr, kRd_tup, kRd_kif, kOpsW_bs, gt0, st0, gt1, st1, gt2, st2, gt3, st3, gt4, st4, gt5, st5, gt6, st6, gt7, st7, gt8, st8, -kWant_bool, -Int.not_le, -Int.not_lt, -decide_eq_true_eq, -decide_eq_false_iff_not, -List.getD_eq_getElem?_getD, -List.set_cons_succ, -List.set_cons_zero, -Bool.and_eq_true, -Bool.or_eq_true, -Bool.not_eq_eq_eq_not, -Bool.or_eq_false_iff, -Bool.and_eq_false_imp, -Bool.not_eq_true, -Bool.not_eq_false]
    | true =>
      by_cases c1 : de < 0
      · have c1' : decide (de < 0) = true := by simp; omega
        unfold c16_b0 c16_r0 c16_a0 T16i bxF bxD bxX
        simp (contextual := true) (maxSteps := 10000000) (implicitDefEqProofs := false) [h1, h3, h4, hdl, hkl, hrow, c1', gw.all, ga.all, gs.all, gr.all, gb.all, xp.all, xi.all, xt.all, xr.all, gA.all, kIadr_LS xi, callV_pu, q28, q29, q30, q31, snap1_sl, snap_sl, tak, freezeH, Go1_kif, Go1_ret, Go1_normal, Go1_exit, RtF_ret, ex_eq, ex_eq2, tidy, kCond_kc, kc_kif, ↓kif_tr, ↓kif_fl, kif_tr, kif_fl, kif_same, ↓kif_not, ↓kif_or, ↓kifg_tr, ↓kifg_fl, ↓kifg_not, ↓kifg_or, ↓kifg_and, kifg_kif, kifB_t, kifB_f, kifB_ft, kifB_tt, kif_bool, kif_int, mergeL, mergeV, mergeS, mergeRs, kSeq_kif, kBlk_kif, kPost_kif, kNext_kif, kFin_kif, kReg_kif, kOps_kif, kO_kif, kG_kif, kDrw_kif, kW_kif, kOpsW_kif, kRet_kif, map_kif, bind_kif, kWant_t, kWant_f, kWant_kif, ↓execI_pick, kPick_bool, kPick_kif, ↓execI_iadr, kIadr_sl, ↓execI_idxs, kIdxs_str, ↓execI_len, ↓rdB_ld, kRd_ptr, kRd_tptr, kRd_tup, kRd_kif, kOpsW_bs, gt0, st0, gt1, st1, gt2, st2, gt3, st3, gt4, st4, gt5, st5, gt6, st6, gt7, st7, gt8, st8, -kWant_bool, -Int.not_le, -Int.not_lt, -decide_eq_true_eq, -decide_eq_false_iff_not, -List.getD_eq_getElem?_getD, -List.set_cons_succ, -List.set_cons_zero, -Bool.and_eq_true, -Bool.or_eq_true, -Bool.not_eq_eq_eq_not, -Bool.or_eq_false_iff, -Bool.and_eq_false_imp, -Bool.not_eq_true, -Bool.not_eq_false]
      have c1' : decide (de < 0) = false := by simp; omega
      by_cases c2 : (lenV w : Int) ≤ de
      · have c2' : decide ((lenV w : Int) ≤ de) = true := by simp; omega
        unfold c16_b0 c16_r0 c16_a0 T16i bxF bxD bxX
        simp (contextual := true) (maxSteps := 10000000) (implicitDefEqProofs := false) [h1, h3, h4, hdl, hkl, hrow, c1', c2', gw.all, ga.all, gs.all, gr.all, gb.all, xp.all, xi.all, xt.all, xr.all, gA.all, kIadr_LS xi, callV_pu, q28, q29, q30, q31, snap1_sl, snap_sl, tak, freezeH, Go1_kif, Go1_ret, Go1_normal, Go1_exit, RtF_ret, ex_eq, ex_eq2, tidy, kCond_kc, kc_kif, ↓kif_tr, ↓kif_fl, kif_tr, kif_fl, kif_same, ↓kif_not, ↓kif_or, ↓kifg_tr, ↓kifg_fl, ↓kifg_not, ↓kifg_or, ↓kifg_and, kifg_kif, kifB_t, kifB_f, kifB_ft, kifB_tt, kif_bool, kif_int, mergeL, mergeV, mergeS, mergeRs, kSeq_kif, kBlk_kif, kPost_kif, kNext_kif, kFin_kif, kReg_kif, kOps_kif, kO_kif, kG_kif, kDrw_kif, kW_kif, kOpsW_kif, kRet_kif, map_kif, bind_kif, kWant_t, kWant_f, kWant_kif, ↓execI_pick, kPick_bool, kPick_kif, ↓execI_iadr, kIadr_sl, ↓execI_idxs, kIdxs_str, ↓execI_len, ↓rdB_ld, kRd_ptr, kRd_tptr, kRd_tup, kRd_kif, kOpsW_bs, gt0, st0, gt1, st1, gt2, st2, gt3, st3, gt4, st4, gt5, st5, gt6, st6, gt7, st7, gt8, st8, -kWant_bool, -Int.not_le, -Int.not_lt, -decide_eq_true_eq, -decide_eq_false_iff_not, -List.getD_eq_getElem?_getD, -List.set_cons_succ, -List.set_cons_zero, -Bool.and_eq_true, -Bool.or_eq_true, -Bool.not_eq_eq_eq_not, -Bool.or_eq_false_iff, -Bool.and_eq_false_imp, -Bool.not_eq_true, -Bool.not_eq_false]
      have c2' : decide ((lenV w : Int) ≤ de) = false := by simp; omega
      have q32 := q32 (fun _ => by omega)
      have hg := BS_get hd c1' c2'
      have hg2 := BS_get hk c1' c2'
      have fin : ∀ d, I16i (bxF nm w ar st rt bl) (bxX ps iss tk tc to rs pi un li) (lenV w) b (j + 1) (T16i (lenV w) b [bxF nm w ar st rt bl, bxD (ds.set de.toNat [.bool true]), bxX ps iss tk tc to rs pi un li, bxD (ks.set de.toNat [.bool true])] (j + 1) d) := fun d => ⟨_, _, _, BS_set hd _ _, BS_set hk _ _, rfl⟩
      generalize I16i (bxF nm w ar st rt bl) (bxX ps iss tk tc to rs pi un li) (lenV w) b (j + 1) = II at fin ⊢
      simp only [T16i, bxF, bxD, bxX, Int.natCast_add, Int.natCast_one] at fin
      unfold c16_b0 c16_r0 c16_a0 T16i bxF bxD bxX
      simp (contextual := true) (maxSteps := 10000000) (implicitDefEqProofs := false) [h1, h3, h4, hdl, hkl, hrow, c1', c2', hg, hg2, gw.all, ga.all, gs.all, gr.all, gb.all, xp.all, xi.all, xt.all, xr.all, gA.all, kIadr_LS xi, callV_pu, q28, q29, q30, q31, q32, snap1_sl, snap_sl, tak, freezeH, fin, Go1_kif, Go1_ret, Go1_normal, Go1_exit, RtF_ret, ex_eq, ex_eq2, tidy, kCond_kc, kc_kif, ↓kif_tr, ↓kif_fl, kif_tr, kif_fl, kif_same, ↓kif_not, ↓kif_or, ↓kifg_tr, ↓kifg_fl, ↓kifg_not, ↓kifg_or, ↓kifg_and, kifg_kif, kifB_t, kifB_f, kifB_ft, kifB_tt, kif_bool, kif_int, mergeL, mergeV, mergeS, mergeRs, kSeq_kif, kBlk_kif, kPost_kif, kNext_kif, kFin_kif, kReg_kif, kOps_kif, kO_kif, kG_kif, kDrw_kif, kW_kif, kOpsW_kif, kRet_kif, map_kif, bind_kif, kWant_t, kWant_f, kWant_kif, ↓execI_pick, kPick_bool, kPick_kif, ↓execI_iadr, kIadr_sl, ↓execI_idxs, kIdxs_str, ↓execI_len, ↓rdB_ld, kRd_ptr, kRd_tptr, kRd_tup, kRd_kif, kOpsW_bs, gt0, st0, gt1, st1, gt2, st2, gt3, st3, gt4, st4, gt5, st5, gt6, st6, gt7, st7, gt8, st8, -kWant_bool, -Int.not_le, -Int.not_lt, -decide_eq_true_eq, -decide_eq_false_iff_not, -List.getD_eq_getElem?_getD, -List.set_cons_succ, -List.set_cons_zero, -Bool.and_eq_true, -Bool.or_eq_true, -Bool.not_eq_eq_eq_not, -Bool.or_eq_false_iff, -Bool.and_eq_false_imp, -Bool.not_eq_true, -Bool.not_eq_false]
end Go.AM.Ytegibclhopenmaa
