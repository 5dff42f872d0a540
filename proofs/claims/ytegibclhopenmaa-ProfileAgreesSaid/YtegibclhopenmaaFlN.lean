/- jacquardref08.Valid: the rounds where there are no values; where the rounds end. -/
import Derived.Test.YtegibclhopenmaaFlL
set_option linter.unusedVariables false
set_option linter.unusedSimpArgs false
namespace Go.AM.Ytegibclhopenmaa
open Go Go.AM
set_option maxRecDepth 100000
set_option maxHeartbeats 0
attribute [local congr] kif_congr
def T16p0 (b : Nat) (H : Heap) (j : Nat) (d : Bool) : St := ⟨[.undef, .ptr 0 1 0 0, .undef, .nils, .int .i64 b, .ptr 1 1 0 0, .nils, .int .i64 j, .undef, .undef, .undef, .undef, .undef, .undef, .undef, .undef, .undef, .undef, .undef, .undef, .undef, .undef, .undef, .undef, .undef, .undef, .undef, .undef, .undef, .undef, .undef, .undef, .undef, .undef, .undef, .undef, .undef, .undef, .undef, .undef, .undef, .undef, .undef, .undef, .undef, .undef, .undef, .undef, .undef, .undef, .undef, .undef, .undef, .undef, .undef, .undef, .undef, .undef, .undef, .undef, .undef, .undef, .undef, .undef, .undef, .undef, .undef, .undef, .undef, .undef, .undef, .undef, .undef, .undef, .undef, .undef, .undef, .undef, .undef, .undef, .undef, .undef, .undef, .undef, .undef, .undef, .undef, .undef, .undef, .undef, .undef, .undef, .undef, .undef, .undef, .undef, .undef, .undef, .undef, .undef, .undef, .undef, .undef, .undef, .undef, .undef, .undef, .undef, .undef, .undef, .undef, .undef, .undef, .undef, .undef, .undef, .undef, .undef, .undef, .undef, .undef, .undef, .undef, .undef, .undef, .undef, .undef, .undef, .undef, .undef, .undef, .undef, .undef, .undef, .undef, .undef, .undef, .undef, .undef, .undef, .undef, .undef, .undef, .undef, .undef, .undef, .undef, .undef, .undef, .undef, .undef, .undef, .undef, .undef, .undef, .undef, .undef, .undef, .undef, .undef, .undef, .undef, .undef, .undef, .undef, .undef, .undef, .undef, .undef, .undef, .undef, .undef, .undef, .undef, .undef, .undef, .undef, .undef, .undef, .undef, .undef, .undef, .undef, .undef, .undef, .undef, .undef, .undef, .undef, .undef, .undef, .undef, .undef, .undef, .undef, .undef, .undef, .undef, .undef, .undef, .undef, .undef], H, d⟩
theorem g16p0 (K : Nat) (nm : ByteArray) (w ar st rt bl : V) (h : OkF nm w ar st rt bl) (ps iss : V) (tk tc : Int) (to rs : V) (pi un li : Int) (hx : OkX ps iss tc to rs) (hz : lenV w = 0) (b j : Nat) (d : Bool) (hj : j < lenV ps) : Go1 (tidy [1, 3, 4, 5, 6, 7] 0) (fun t => t = T16p0 b [bxF nm w ar st rt bl, bxX ps iss tk tc to rs pi un li] (j + 1) d) (RtF 2) (execC (callF tbl pu (K + 1)) pu 0 (K + 1) c16_b1 (T16p0 b [bxF nm w ar st rt bl, bxX ps iss tk tc to rs pi un li] j d)) := by
  have gw := LS22 h.w
  have ga := LS23 h.ar
  have gs := LS24 h.st
  have gr := LS22 h.rt
  have gb := LS25 h.bl
  have xp := LS22 hx.p
  have xi := LS88 hx.i
  have xt := LS85 hx.t
  have xr := LS22 hx.r
  have hL := len22 hx.p
  simp only [LMAX] at hL
  have h1 : IntKind.i64.wrap ((j : Int) + 1) = (j : Int) + 1 := wrap64 (by omega) (by omega)
  have h3 : decide (lenV ps ≤ j) = false := by simp; omega
  have h4 : decide (j < lenV ps) = true := by simp; omega
  have hrow := (e22 hx.p hj).1
  have q28 := eq28 K nm w ar st rt bl h (ic ps j 0)
  generalize ic ps j 0 = v at hrow q28
  have q28' : callF tbl pu (K + 1) 28 [.agg [.str nm, w, ar, st, rt, bl], .int .i64 v] [] = some (.bool false, [], false) := by
    rw [q28]
    simp
    omega
  unfold c16_b1 T16p0 bxF bxX
  simp (contextual := true) (maxSteps := 10000000) (implicitDefEqProofs := false) [h1, h3, h4, hrow, gw.all, ga.all, gs.all, gr.all, gb.all, xp.all, xi.all, xt.all, xr.all, kIadr_LS xp, callV_pu, q28', Go1_kif, Go1_ret, Go1_normal, Go1_exit, RtF_ret, ex_eq, ex_eq2, tidy, kCond_kc, kc_kif, ↓kif_tr, ↓kif_fl, kif_tr, kif_fl, kif_same, ↓kif_not, ↓kif_or, ↓kifg_tr, ↓kifg_fl, ↓kifg_not, ↓kifg_or, ↓kifg_and, kifg_kif, kifB_t, kifB_f, kifB_ft, kifB_tt, kif_bool, kif_int, mergeL, mergeV, mergeS, mergeRs, kSeq_kif, kBlk_kif, kPost_kif, kNext_kif, kFin_kif, kReg_kif, kOps_kif, kO_kif, kG_kif, kDrw_kif, kW_kif, kOpsW_kif, kRet_kif, map_kif, bind_kif, kWant_t, kWant_f, kWant_kif, ↓execI_pick, kPick_bool, kPick_kif, ↓execI_iadr, kIadr_sl, ↓execI_idxs, kIdxs_str, ↓execI_len, ↓rdB_ld, kRd_ptr, kRd_tptr, kRd_tup, kRd_kif, kOpsW_bs, gt0, st0, gt1, st1, gt2, st2, gt3, st3, gt4, st4, gt5, st5, gt6, st6, gt7, st7, gt8, st8, -kWant_bool, -Int.not_le, -Int.not_lt, -decide_eq_true_eq, -decide_eq_false_iff_not, -List.getD_eq_getElem?_getD, -List.set_cons_succ, -List.set_cons_zero, -Bool.and_eq_true, -Bool.or_eq_true, -Bool.not_eq_eq_eq_not, -Bool.or_eq_false_iff, -Bool.and_eq_false_imp, -Bool.not_eq_true, -Bool.not_eq_false]
def T16i0 (b : Nat) (H : Heap) (j : Nat) (d : Bool) : St := ⟨[.undef, .ptr 0 1 0 0, .undef, .nils, .int .i64 b, .ptr 1 1 0 0, .nils, .undef, .undef, .int .i64 j, .undef, .undef, .undef, .undef, .undef, .undef, .undef, .undef, .undef, .undef, .undef, .undef, .undef, .undef, .undef, .undef, .undef, .undef, .undef, .undef, .undef, .undef, .undef, .undef, .undef, .undef, .undef, .undef, .undef, .undef, .undef, .undef, .undef, .undef, .undef, .undef, .undef, .undef, .undef, .undef, .undef, .undef, .undef, .undef, .undef, .undef, .undef, .undef, .undef, .undef, .undef, .undef, .undef, .undef, .undef, .undef, .undef, .undef, .undef, .undef, .undef, .undef, .undef, .undef, .undef, .undef, .undef, .undef, .undef, .undef, .undef, .undef, .undef, .undef, .undef, .undef, .undef, .undef, .undef, .undef, .undef, .undef, .undef, .undef, .undef, .undef, .undef, .undef, .undef, .undef, .undef, .undef, .undef, .undef, .undef, .undef, .undef, .undef, .undef, .undef, .undef, .undef, .undef, .undef, .undef, .undef, .undef, .undef, .undef, .undef, .undef, .undef, .undef, .undef, .undef, .undef, .undef, .undef, .undef, .undef, .undef, .undef, .undef, .undef, .undef, .undef, .undef, .undef, .undef, .undef, .undef, .undef, .undef, .undef, .undef, .undef, .undef, .undef, .undef, .undef, .undef, .undef, .undef, .undef, .undef, .undef, .undef, .undef, .undef, .undef, .undef, .undef, .undef, .undef, .undef, .undef, .undef, .undef, .undef, .undef, .undef, .undef, .undef, .undef, .undef, .undef, .undef, .undef, .undef, .undef, .undef, .undef, .undef, .undef, .undef, .undef, .undef, .undef, .undef, .undef, .undef, .undef, .undef, .undef, .undef, .undef, .undef, .undef, .undef, .undef, .undef, .undef], H, d⟩
def I16i0 (B X : Blk) (b j : Nat) (t : St) : Prop := ∃ d, t = T16i0 b [B, X] j d
theorem g16i0 (K : Nat) (hK : BIG ≤ K) (nm : ByteArray) (w ar st rt bl : V) (h : OkF nm w ar st rt bl) (ps iss : V) (tk tc : Int) (to rs : V) (pi un li : Int) (hx : OkX ps iss tc to rs) (hz : lenV w = 0) (b j : Nat) (hj : j < lenV iss) (t : St) (ht : I16i0 (bxF nm w ar st rt bl) (bxX ps iss tk tc to rs pi un li) b j t) : Go1 (tidy [1, 3, 4, 5, 6, 9] 0) (I16i0 (bxF nm w ar st rt bl) (bxX ps iss tk tc to rs pi un li) b (j + 1)) (RtF 2) (execC (callF tbl pu (K + 4)) pu 0 (K + 4) c16_b0 t) := by
  obtain ⟨d, rfl⟩ := ht
  have gw := LS22 h.w
  have ga := LS23 h.ar
  have gs := LS24 h.st
  have gr := LS22 h.rt
  have gb := LS25 h.bl
  have xp := LS22 hx.p
  have xi := LS88 hx.i
  have xt := LS85 hx.t
  have xr := LS22 hx.r
  have hL := len88 hx.i
  simp only [LMAX] at hL
  have h1 : IntKind.i64.wrap ((j : Int) + 1) = (j : Int) + 1 := wrap64 (by omega) (by omega)
  have h3 : decide (lenV iss ≤ j) = false := by simp; omega
  have h4 : decide (j < lenV iss) = true := by simp; omega
  obtain ⟨hrow, -, -, ha, -, -⟩ := e88 hx.i hj
  have gA := LS22 ha
  have q28 := eq28 (K + 3) nm w ar st rt bl h (ic iss j 1)
  have hkb : KB (lenV w) .nils := ⟨.inl rfl, by rw [hz]; rfl, fun i hi => absurd hi (by omega)⟩
  have q30 := eq30 (K + 2) (big_add 2 hK) nm w ar st rt bl h (cel iss j 2) .nils ha hkb
  have pp := p30 (K + 2) (big_add 2 hK) nm w ar st rt bl h (cel iss j 2) .nils ha hkb
  have q29 := f29 (K + 2) (ic iss j 0)
  have q31 := f31 (K + 1) (ic iss j 0)
  have q32 := eq32 K hK nm w ar st rt bl h (ic iss j 0) (ic iss j 1) (cel iss j 2) (ic iss j 3) (ic iss j 4) ha
  have hA := A29_le (ic iss j 0)
  rw [q31_R] at q32
  generalize ic iss j 0 = op at *
  generalize ic iss j 1 = de at *
  generalize cel iss j 2 = aa at *
  generalize ic iss j 3 = nu at *
  generalize ic iss j 4 = me at *
  generalize A29 op = n29 at *
  by_cases c1 : n29 = lenV aa
  case neg =>
    have c1' : decide (n29 = (lenV aa : Int)) = false := by simp [c1]
    unfold c16_b0 c16_r0 c16_a0 T16i0 bxF bxX
    simp (contextual := true) (maxSteps := 10000000) (implicitDefEqProofs := false) [h1, h3, h4, hrow, c1', gw.all, ga.all, gs.all, gr.all, gb.all, xp.all, xi.all, xt.all, xr.all, gA.all, kIadr_LS xi, callV_pu, q29, freezeH, Go1_kif, Go1_ret, Go1_normal, Go1_exit, RtF_ret, ex_eq, ex_eq2, tidy, kCond_kc, kc_kif, ↓kif_tr, ↓kif_fl, kif_tr, kif_fl, kif_same, ↓kif_not, ↓kif_or, ↓kifg_tr, ↓kifg_fl, ↓kifg_not, ↓kifg_or, ↓kifg_and, kifg_kif, kifB_t, kifB_f, kifB_ft, kifB_tt, kif_bool, kif_int, mergeL, mergeV, mergeS, mergeRs, kSeq_kif, kBlk_kif, kPost_kif, kNext_kif, kFin_kif, kReg_kif, kOps_kif, kO_kif, kG_kif, kDrw_kif, kW_kif, kOpsW_kif, kRet_kif, map_kif, bind_kif, kWant_t, kWant_f, kWant_kif, ↓execI_pick, kPick_bool, kPick_kif, ↓execI_iadr, kIadr_sl, ↓execI_idxs, kIdxs_str, ↓execI_len, ↓rdB_ld, kRd_ptr, kRd_tptr, kRd_tup, kRd_kif, kOpsW_bs, gt0, st0, gt1, st1, gt2, st2, gt3, st3, gt4, st4, gt5, st5, gt6, st6, gt7, st7, gt8, st8, -kWant_bool, -Int.not_le, -Int.not_lt, -decide_eq_true_eq, -decide_eq_false_iff_not, -List.getD_eq_getElem?_getD, -List.set_cons_succ, -List.set_cons_zero, -Bool.and_eq_true, -Bool.or_eq_true, -Bool.not_eq_eq_eq_not, -Bool.or_eq_false_iff, -Bool.and_eq_false_imp, -Bool.not_eq_true, -Bool.not_eq_false]
  subst c1
  generalize hq : qb 30 (K + 2 + 2) [.agg [.str nm, w, ar, st, rt, bl], aa, .nils] = q at q30 pp
  cases q with
  | false =>
    unfold c16_b0 c16_r0 c16_a0 T16i0 bxF bxX
    simp (contextual := true) (maxSteps := 10000000) (implicitDefEqProofs := false) [h1, h3, h4, hrow, gw.all, ga.all, gs.all, gr.all, gb.all, xp.all, xi.all, xt.all, xr.all, gA.all, kIadr_LS xi, callV_pu, q29, q30, freezeH, Go1_kif, Go1_ret, Go1_normal, Go1_exit, RtF_ret, ex_eq, ex_eq2, tidy, kCond_kc, kc_kif, ↓kif_tr, ↓kif_fl, kif_tr, kif_fl, kif_same, ↓kif_not, ↓kif_or, ↓kifg_tr, ↓kifg_fl, ↓kifg_not, ↓kifg_or, ↓kifg_and, kifg_kif, kifB_t, kifB_f, kifB_ft, kifB_tt, kif_bool, kif_int, mergeL, mergeV, mergeS, mergeRs, kSeq_kif, kBlk_kif, kPost_kif, kNext_kif, kFin_kif, kReg_kif, kOps_kif, kO_kif, kG_kif, kDrw_kif, kW_kif, kOpsW_kif, kRet_kif, map_kif, bind_kif, kWant_t, kWant_f, kWant_kif, ↓execI_pick, kPick_bool, kPick_kif, ↓execI_iadr, kIadr_sl, ↓execI_idxs, kIdxs_str, ↓execI_len, ↓rdB_ld, kRd_ptr, kRd_tptr, kRd_tup, kRd_kif, kOpsW_bs, gt0, st0, gt1, st1, gt2, st2, gt3, st3, gt4, st4, gt5, st5, gt6, st6, gt7, st7, gt8, st8, -kWant_bool, -Int.not_le, -Int.not_lt, -decide_eq_true_eq, -decide_eq_false_iff_not, -List.getD_eq_getElem?_getD, -List.set_cons_succ, -List.set_cons_zero, -Bool.and_eq_true, -Bool.or_eq_true, -Bool.not_eq_eq_eq_not, -Bool.or_eq_false_iff, -Bool.and_eq_false_imp, -Bool.not_eq_true, -Bool.not_eq_false]
  | true =>
    have hin := pp rfl
    have h3' : lenV aa ≤ 3 := by omega
    have q32 := q32 h3' hin
    generalize R31 op = r31 at *
    cases r31 with
    | false =>
      have q32 := q32 (fun hh => by cases hh)
      have fin : ∀ d, I16i0 (bxF nm w ar st rt bl) (bxX ps iss tk tc to rs pi un li) b (j + 1) (T16i0 b [bxF nm w ar st rt bl, bxX ps iss tk tc to rs pi un li] (j + 1) d) := fun d => ⟨_, rfl⟩
      generalize I16i0 (bxF nm w ar st rt bl) (bxX ps iss tk tc to rs pi un li) b (j + 1) = II at fin ⊢
      simp only [T16i0, bxF, bxX, Int.natCast_add, Int.natCast_one] at fin
      unfold c16_b0 c16_r0 c16_a0 T16i0 bxF bxX
      simp (contextual := true) (maxSteps := 10000000) (implicitDefEqProofs := false) [h1, h3, h4, hrow, gw.all, ga.all, gs.all, gr.all, gb.all, xp.all, xi.all, xt.all, xr.all, gA.all, kIadr_LS xi, callV_pu, q29, q30, q31, q32, freezeH, fin, Go1_kif, Go1_ret, Go1_normal, Go1_exit, RtF_ret, ex_eq, ex_eq2, tidy, kCond_kc, kc_kif, ↓kif_tr, ↓kif_fl, kif_tr, kif_fl, kif_same, ↓kif_not, ↓kif_or, ↓kifg_tr, ↓kifg_fl, ↓kifg_not, ↓kifg_or, ↓kifg_and, kifg_kif, kifB_t, kifB_f, kifB_ft, kifB_tt, kif_bool, kif_int, mergeL, mergeV, mergeS, mergeRs, kSeq_kif, kBlk_kif, kPost_kif, kNext_kif, kFin_kif, kReg_kif, kOps_kif, kO_kif, kG_kif, kDrw_kif, kW_kif, kOpsW_kif, kRet_kif, map_kif, bind_kif, kWant_t, kWant_f, kWant_kif, ↓execI_pick, kPick_bool, kPick_kif, ↓execI_iadr, kIadr_sl, ↓execI_idxs, kIdxs_str, ↓execI_len, ↓rdB_ld, kRd_ptr, kRd_tptr, kRd_tup, kRd_kif, kOpsW_bs, gt0, st0, gt1, st1, gt2, st2, gt3, st3, gt4, st4, gt5, st5, gt6, st6, gt7, st7, gt8, st8, -kWant_bool, -Int.not_le, -Int.not_lt, -decide_eq_true_eq, -decide_eq_false_iff_not, -List.getD_eq_getElem?_getD, -List.set_cons_succ, -List.set_cons_zero, -Bool.and_eq_true, -Bool.or_eq_true, -Bool.not_eq_eq_eq_not, -Bool.or_eq_false_iff, -Bool.and_eq_false_imp, -Bool.not_eq_true, -Bool.not_eq_false]
    | true =>
      have q28' : callF tbl pu (K + 3 + 1) 28 [.agg [.str nm, w, ar, st, rt, bl], .int .i64 de] [] = some (.bool false, [], false) := by
        rw [q28]
        simp
        omega
      unfold c16_b0 c16_r0 c16_a0 T16i0 bxF bxX
      simp (contextual := true) (maxSteps := 10000000) (implicitDefEqProofs := false) [h1, h3, h4, hrow, gw.all, ga.all, gs.all, gr.all, gb.all, xp.all, xi.all, xt.all, xr.all, gA.all, kIadr_LS xi, callV_pu, q28', q29, q30, q31, freezeH, Go1_kif, Go1_ret, Go1_normal, Go1_exit, RtF_ret, ex_eq, ex_eq2, tidy, kCond_kc, kc_kif, ↓kif_tr, ↓kif_fl, kif_tr, kif_fl, kif_same, ↓kif_not, ↓kif_or, ↓kifg_tr, ↓kifg_fl, ↓kifg_not, ↓kifg_or, ↓kifg_and, kifg_kif, kifB_t, kifB_f, kifB_ft, kifB_tt, kif_bool, kif_int, mergeL, mergeV, mergeS, mergeRs, kSeq_kif, kBlk_kif, kPost_kif, kNext_kif, kFin_kif, kReg_kif, kOps_kif, kO_kif, kG_kif, kDrw_kif, kW_kif, kOpsW_kif, kRet_kif, map_kif, bind_kif, kWant_t, kWant_f, kWant_kif, ↓execI_pick, kPick_bool, kPick_kif, ↓execI_iadr, kIadr_sl, ↓execI_idxs, kIdxs_str, ↓execI_len, ↓rdB_ld, kRd_ptr, kRd_tptr, kRd_tup, kRd_kif, kOpsW_bs, gt0, st0, gt1, st1, gt2, st2, gt3, st3, gt4, st4, gt5, st5, gt6, st6, gt7, st7, gt8, st8, -kWant_bool, -Int.not_le, -Int.not_lt, -decide_eq_true_eq, -decide_eq_false_iff_not, -List.getD_eq_getElem?_getD, -List.set_cons_succ, -List.set_cons_zero, -Bool.and_eq_true, -Bool.or_eq_true, -Bool.not_eq_eq_eq_not, -Bool.or_eq_false_iff, -Bool.and_eq_false_imp, -Bool.not_eq_true, -Bool.not_eq_false]
theorem x16p (call : CallT) (K : Nat) (B : Blk) (ps iss : V) (tk tc : Int) (to rs : V) (pi un li : Int) (hx : OkX ps iss tc to rs) (n b : Nat) (t : St) (ht : I16p B (bxX ps iss tk tc to rs pi un li) n b (lenV ps) t) : Nn (execC call pu 0 K c16_b1 t) := by
  obtain ⟨ds, ks, d, hd, hk, rfl⟩ := ht
  have xp := LS22 hx.p
  have xi := LS88 hx.i
  have xt := LS85 hx.t
  have xr := LS22 hx.r
  unfold c16_b1 T16p bxX bxD
  simp (contextual := true) (maxSteps := 10000000) (implicitDefEqProofs := false) [xp.all, xi.all, xt.all, xr.all, Nn_exit, kCond_kc, kc_kif, ↓kif_tr, ↓kif_fl, kif_tr, kif_fl, kif_same, ↓kif_not, ↓kif_or, ↓kifg_tr, ↓kifg_fl, ↓kifg_not, ↓kifg_or, ↓kifg_and, kifg_kif, kifB_t, kifB_f, kifB_ft, kifB_tt, kif_bool, kif_int, mergeL, mergeV, mergeS, mergeRs, kSeq_kif, kBlk_kif, kPost_kif, kNext_kif, kFin_kif, kReg_kif, kOps_kif, kO_kif, kG_kif, kDrw_kif, kW_kif, kOpsW_kif, kRet_kif, map_kif, bind_kif, kWant_t, kWant_f, kWant_kif, ↓execI_pick, kPick_bool, kPick_kif, ↓execI_iadr, kIadr_sl, ↓execI_idxs, kIdxs_str, ↓execI_len, ↓rdB_ld, kRd_ptr, kRd_tptr, kRd_tup, kRd_kif, kOpsW_bs, gt0, st0, gt1, st1, gt2, st2, gt3, st3, gt4, st4, gt5, st5, gt6, st6, gt7, st7, gt8, st8, -kWant_bool, -Int.not_le, -Int.not_lt, -decide_eq_true_eq, -decide_eq_false_iff_not, -List.getD_eq_getElem?_getD, -List.set_cons_succ, -List.set_cons_zero, -Bool.and_eq_true, -Bool.or_eq_true, -Bool.not_eq_eq_eq_not, -Bool.or_eq_false_iff, -Bool.and_eq_false_imp, -Bool.not_eq_true, -Bool.not_eq_false]
theorem x16p0 (call : CallT) (K : Nat) (B : Blk) (ps iss : V) (tk tc : Int) (to rs : V) (pi un li : Int) (hx : OkX ps iss tc to rs) (b : Nat) (d : Bool) : Nn (execC call pu 0 K c16_b1 (T16p0 b [B, bxX ps iss tk tc to rs pi un li] (lenV ps) d)) := by
  have xp := LS22 hx.p
  have xi := LS88 hx.i
  have xt := LS85 hx.t
  have xr := LS22 hx.r
  unfold c16_b1 T16p0 bxX
  simp (contextual := true) (maxSteps := 10000000) (implicitDefEqProofs := false) [xp.all, xi.all, xt.all, xr.all, Nn_exit, kCond_kc, kc_kif, ↓kif_tr, ↓kif_fl, kif_tr, kif_fl, kif_same, ↓kif_not, ↓kif_or, ↓kifg_tr, ↓kifg_fl, ↓kifg_not, ↓kifg_or, ↓kifg_and, kifg_kif, kifB_t, kifB_f, kifB_ft, kifB_tt, kif_bool, kif_int, mergeL, mergeV, mergeS, mergeRs, kSeq_kif, kBlk_kif, kPost_kif, kNext_kif, kFin_kif, kReg_kif, kOps_kif, kO_kif, kG_kif, kDrw_kif, kW_kif, kOpsW_kif, kRet_kif, map_kif, bind_kif, kWant_t, kWant_f, kWant_kif, ↓execI_pick, kPick_bool, kPick_kif, ↓execI_iadr, kIadr_sl, ↓execI_idxs, kIdxs_str, ↓execI_len, ↓rdB_ld, kRd_ptr, kRd_tptr, kRd_tup, kRd_kif, kOpsW_bs, gt0, st0, gt1, st1, gt2, st2, gt3, st3, gt4, st4, gt5, st5, gt6, st6, gt7, st7, gt8, st8, -kWant_bool, -Int.not_le, -Int.not_lt, -decide_eq_true_eq, -decide_eq_false_iff_not, -List.getD_eq_getElem?_getD, -List.set_cons_succ, -List.set_cons_zero, -Bool.and_eq_true, -Bool.or_eq_true, -Bool.not_eq_eq_eq_not, -Bool.or_eq_false_iff, -Bool.and_eq_false_imp, -Bool.not_eq_true, -Bool.not_eq_false]
theorem x16i (call : CallT) (K : Nat) (B : Blk) (ps iss : V) (tk tc : Int) (to rs : V) (pi un li : Int) (hx : OkX ps iss tc to rs) (n b : Nat) (t : St) (ht : I16i B (bxX ps iss tk tc to rs pi un li) n b (lenV iss) t) : Nn (execC call pu 0 K c16_b0 t) := by
  obtain ⟨ds, ks, d, hd, hk, rfl⟩ := ht
  have xp := LS22 hx.p
  have xi := LS88 hx.i
  have xt := LS85 hx.t
  have xr := LS22 hx.r
  unfold c16_b0 T16i bxX bxD
  simp (contextual := true) (maxSteps := 10000000) (implicitDefEqProofs := false) [xp.all, xi.all, xt.all, xr.all, Nn_exit, kCond_kc, kc_kif, ↓kif_tr, ↓kif_fl, kif_tr, kif_fl, kif_same, ↓kif_not, ↓kif_or, ↓kifg_tr, ↓kifg_fl, ↓kifg_not, ↓kifg_or, ↓kifg_and, kifg_kif, kifB_t, kifB_f, kifB_ft, kifB_tt, kif_bool, kif_int, mergeL, mergeV, mergeS, mergeRs, kSeq_kif, kBlk_kif, kPost_kif, kNext_kif, kFin_kif, kReg_kif, kOps_kif, kO_kif, kG_kif, kDrw_kif, kW_kif, kOpsW_kif, kRet_kif, map_kif, bind_kif, kWant_t, kWant_f, kWant_kif, ↓execI_pick, kPick_bool, kPick_kif, ↓execI_iadr, kIadr_sl, ↓execI_idxs, kIdxs_str, ↓execI_len, ↓rdB_ld, kRd_ptr, kRd_tptr, kRd_tup, kRd_kif, kOpsW_bs, gt0, st0, gt1, st1, gt2, st2, gt3, st3, gt4, st4, gt5, st5, gt6, st6, gt7, st7, gt8, st8, -kWant_bool, -Int.not_le, -Int.not_lt, -decide_eq_true_eq, -decide_eq_false_iff_not, -List.getD_eq_getElem?_getD, -List.set_cons_succ, -List.set_cons_zero, -Bool.and_eq_true, -Bool.or_eq_true, -Bool.not_eq_eq_eq_not, -Bool.or_eq_false_iff, -Bool.and_eq_false_imp, -Bool.not_eq_true, -Bool.not_eq_false]
theorem x16i0 (call : CallT) (K : Nat) (B : Blk) (ps iss : V) (tk tc : Int) (to rs : V) (pi un li : Int) (hx : OkX ps iss tc to rs) (b : Nat) (t : St) (ht : I16i0 B (bxX ps iss tk tc to rs pi un li) b (lenV iss) t) : Nn (execC call pu 0 K c16_b0 t) := by
  obtain ⟨d, rfl⟩ := ht
  have xp := LS22 hx.p
  have xi := LS88 hx.i
  have xt := LS85 hx.t
  have xr := LS22 hx.r
  unfold c16_b0 T16i0 bxX
  simp (contextual := true) (maxSteps := 10000000) (implicitDefEqProofs := false) [xp.all, xi.all, xt.all, xr.all, Nn_exit, kCond_kc, kc_kif, ↓kif_tr, ↓kif_fl, kif_tr, kif_fl, kif_same, ↓kif_not, ↓kif_or, ↓kifg_tr, ↓kifg_fl, ↓kifg_not, ↓kifg_or, ↓kifg_and, kifg_kif, kifB_t, kifB_f, kifB_ft, kifB_tt, kif_bool, kif_int, mergeL, mergeV, mergeS, mergeRs, kSeq_kif, kBlk_kif, kPost_kif, kNext_kif, kFin_kif, kReg_kif, kOps_kif, kO_kif, kG_kif, kDrw_kif, kW_kif, kOpsW_kif, kRet_kif, map_kif, bind_kif, kWant_t, kWant_f, kWant_kif, ↓execI_pick, kPick_bool, kPick_kif, ↓execI_iadr, kIadr_sl, ↓execI_idxs, kIdxs_str, ↓execI_len, ↓rdB_ld, kRd_ptr, kRd_tptr, kRd_tup, kRd_kif, kOpsW_bs, gt0, st0, gt1, st1, gt2, st2, gt3, st3, gt4, st4, gt5, st5, gt6, st6, gt7, st7, gt8, st8, -kWant_bool, -Int.not_le, -Int.not_lt, -decide_eq_true_eq, -decide_eq_false_iff_not, -List.getD_eq_getElem?_getD, -List.set_cons_succ, -List.set_cons_zero, -Bool.and_eq_true, -Bool.or_eq_true, -Bool.not_eq_eq_eq_not, -Bool.or_eq_false_iff, -Bool.and_eq_false_imp, -Bool.not_eq_true, -Bool.not_eq_false]
end Go.AM.Ytegibclhopenmaa
