/- leads, and both functions Self. -/
import Derived.Test.YtegibclhopenmaaFlQ
set_option linter.unusedVariables false
set_option linter.unusedSimpArgs false
namespace Go.AM.Ytegibclhopenmaa
open Go Go.AM
set_option maxRecDepth 100000
set_option maxHeartbeats 0
attribute [local congr] kif_congr
/-- returns v -/
def RtN (slot : Nat) (v : V) (r : Ex × St) : Prop := r.1 = .ret ∧ r.2.fr.getD slot .undef = v
theorem RtN_ret {slot : Nat} {v : V} {s : St} : RtN slot v (.ret, s) = (s.fr.getD slot .undef = v) := by simp [RtN]
theorem RtN_eq {slot : Nat} {v : V} {r : Ex × St} (h : RtN slot v r) : ∃ fr H d, r = (.ret, ⟨fr, H, d⟩) ∧ fr.getD slot .undef = v := by
  obtain ⟨e, fr, H, d⟩ := r
  obtain ⟨h1, h2⟩ := h
  dsimp only at h1 h2
  subst h1
  exact ⟨fr, H, d, rfl, h2⟩
theorem fin_n {fr : List V} {slot : Nat} {H : Heap} {d : Bool} {v : V} (hv : v.tree = true) (h : fr.getD slot .undef = v) : kFin 0 [.t slot] (some (.ret, ⟨fr, H, d⟩)) = some (v, [], d) := fin_tree rfl h hv
/-- how many of the first edges lead to a block -/
def cnt (to : V) (b : Int) : Nat → Nat
  | 0 => 0
  | j + 1 => cnt to b j + if ic to j 0 = b then 1 else 0
theorem cnt_le {to : V} {b : Int} {i j : Nat} (h : i ≤ j) : cnt to b i ≤ cnt to b j := by
  induction j with
  | zero => obtain rfl : i = 0 := by omega
            exact Nat.le_refl _
  | succ j ih =>
    by_cases hj : i ≤ j
    · have := ih hj
      simp only [cnt]; omega
    · obtain rfl : i = j + 1 := by omega
      exact Nat.le_refl _
theorem cnt_pos {to : V} {b : Int} {j : Nat} : 0 < cnt to b j ↔ ∃ i, i < j ∧ ic to i 0 = b := by
  induction j with
  | zero => simp [cnt]
  | succ j ih =>
    simp only [cnt]
    by_cases hj : ic to j 0 = b
    · simp only [hj, if_true]
      exact ⟨fun _ => ⟨j, by omega, hj⟩, fun _ => by omega⟩
    · simp only [hj, if_false, Nat.add_zero, ih]
      exact ⟨fun ⟨i, h1, h2⟩ => ⟨i, by omega, h2⟩, fun ⟨i, h1, h2⟩ => ⟨i, by
        by_cases h3 : i = j
        · subst h3; exact absurd h2 hj
        · omega, h2⟩⟩
/-! leads -/
def T22 (b : Int) (to : V) (j : Nat) (d : Bool) : St := ⟨[.undef, .undef, .int .i64 b, .undef, .undef, .undef, .undef, .undef, .undef, .undef, .undef, .undef, .undef, .undef, .undef, to, .int .i64 (lenV to), .int .i64 j, .undef, .undef, .undef, .undef, .undef, .undef, .undef, .undef], [], d⟩
def I22 (b : Int) (to : V) (j : Nat) (t : St) : Prop := ∃ d, cnt to b j = 0 ∧ t = T22 b to j d
def R22 (b : Int) (to : V) (r : Ex × St) : Prop := 0 < cnt to b (lenV to) ∧ RtN 6 (.bool true) r
theorem g22 (call : CallT) (K : Nat) (b : Int) (to : V) (hto : S85 [to]) (j : Nat) (hj : j < lenV to) (t : St) (ht : I22 b to j t) : Go1 (tidy [2, 15, 16, 17] 0) (I22 b to (j + 1)) (R22 b to) (execC call pu 0 K c22_b0 t) := by
  obtain ⟨d, hc, rfl⟩ := ht
  have hL := len85 hto
  simp only [LMAX] at hL
  have gt := LS85 hto
  have h1 : IntKind.i64.wrap ((j : Int) + 1) = (j : Int) + 1 := wrap64 (by omega) (by omega)
  have h3 : decide (lenV to ≤ j) = false := by simp; omega
  have h4 : decide (j < lenV to) = true := by simp; omega
  obtain ⟨hrow, -, ha⟩ := e85 hto hj
  have gA := LS22 ha
  by_cases hx : ic to j 0 = b
  · have h5 : decide (ic to j 0 = b) = true := by simp [hx]
    have h6 : 0 < cnt to b (lenV to) := cnt_pos.2 ⟨j, hj, hx⟩
    unfold c22_b0 T22
    simp (contextual := true) (maxSteps := 10000000) (implicitDefEqProofs := false) [h1, h3, h4, h5, h6, hrow, gt.all, gA.all, kIadr_LS gt, freezeH, Go1_kif, Go1_ret, Go1_normal, Go1_exit, RtF_ret, ex_eq, ex_eq2, tidy, R22, RtN_ret, kCond_kc, kc_kif, ↓kif_tr, ↓kif_fl, kif_tr, kif_fl, kif_same, ↓kif_not, ↓kif_or, ↓kifg_tr, ↓kifg_fl, ↓kifg_not, ↓kifg_or, ↓kifg_and, kifg_kif, kifB_t, kifB_f, kifB_ft, kifB_tt, kif_bool, kif_int, mergeL, mergeV, mergeS, mergeRs, kSeq_kif, kBlk_kif, kPost_kif, kNext_kif, kFin_kif, kReg_kif, kOps_kif, kO_kif, kG_kif, kDrw_kif, kW_kif, kOpsW_kif, kRet_kif, map_kif, bind_kif, kWant_t, kWant_f, kWant_kif, ↓execI_pick, kPick_bool, kPick_kif, ↓execI_iadr, kIadr_sl, ↓execI_idxs, kIdxs_str, ↓execI_len, ↓rdB_ld, kRd_ptr, kRd_tptr, kRd_tup, kRd_kif, kOpsW_bs, gt0, st0, gt1, st1, gt2, st2, gt3, st3, gt4, st4, gt5, st5, gt6, st6, gt7, st7, gt8, st8, -kWant_bool, -Int.not_le, -Int.not_lt, -decide_eq_true_eq, -decide_eq_false_iff_not, -List.getD_eq_getElem?_getD, -List.set_cons_succ, -List.set_cons_zero, -Bool.and_eq_true, -Bool.or_eq_true, -Bool.not_eq_eq_eq_not, -Bool.or_eq_false_iff, -Bool.and_eq_false_imp, -Bool.not_eq_true, -Bool.not_eq_false]
  · have h5 : decide (ic to j 0 = b) = false := by simp [hx]
    have fin : ∀ d, I22 b to (j + 1) (T22 b to (j + 1) d) := fun d => ⟨d, by simp [cnt, hc, hx], rfl⟩
    generalize I22 b to (j + 1) = II at fin ⊢
    simp only [T22, Int.natCast_add, Int.natCast_one] at fin
    unfold c22_b0 T22
    simp (contextual := true) (maxSteps := 10000000) (implicitDefEqProofs := false) [h1, h3, h4, h5, hrow, gt.all, gA.all, kIadr_LS gt, freezeH, fin, Go1_kif, Go1_ret, Go1_normal, Go1_exit, RtF_ret, ex_eq, ex_eq2, tidy, kCond_kc, kc_kif, ↓kif_tr, ↓kif_fl, kif_tr, kif_fl, kif_same, ↓kif_not, ↓kif_or, ↓kifg_tr, ↓kifg_fl, ↓kifg_not, ↓kifg_or, ↓kifg_and, kifg_kif, kifB_t, kifB_f, kifB_ft, kifB_tt, kif_bool, kif_int, mergeL, mergeV, mergeS, mergeRs, kSeq_kif, kBlk_kif, kPost_kif, kNext_kif, kFin_kif, kReg_kif, kOps_kif, kO_kif, kG_kif, kDrw_kif, kW_kif, kOpsW_kif, kRet_kif, map_kif, bind_kif, kWant_t, kWant_f, kWant_kif, ↓execI_pick, kPick_bool, kPick_kif, ↓execI_iadr, kIadr_sl, ↓execI_idxs, kIdxs_str, ↓execI_len, ↓rdB_ld, kRd_ptr, kRd_tptr, kRd_tup, kRd_kif, kOpsW_bs, gt0, st0, gt1, st1, gt2, st2, gt3, st3, gt4, st4, gt5, st5, gt6, st6, gt7, st7, gt8, st8, -kWant_bool, -Int.not_le, -Int.not_lt, -decide_eq_true_eq, -decide_eq_false_iff_not, -List.getD_eq_getElem?_getD, -List.set_cons_succ, -List.set_cons_zero, -Bool.and_eq_true, -Bool.or_eq_true, -Bool.not_eq_eq_eq_not, -Bool.or_eq_false_iff, -Bool.and_eq_false_imp, -Bool.not_eq_true, -Bool.not_eq_false]
theorem x22 (call : CallT) (K : Nat) (b : Int) (to : V) (t : St) (ht : I22 b to (lenV to) t) : Nn (execC call pu 0 K c22_b0 t) := by
  obtain ⟨d, hc, rfl⟩ := ht
  unfold c22_b0 T22
  simp (contextual := true) (maxSteps := 10000000) (implicitDefEqProofs := false) [Nn_exit, kCond_kc, kc_kif, ↓kif_tr, ↓kif_fl, kif_tr, kif_fl, kif_same, ↓kif_not, ↓kif_or, ↓kifg_tr, ↓kifg_fl, ↓kifg_not, ↓kifg_or, ↓kifg_and, kifg_kif, kifB_t, kifB_f, kifB_ft, kifB_tt, kif_bool, kif_int, mergeL, mergeV, mergeS, mergeRs, kSeq_kif, kBlk_kif, kPost_kif, kNext_kif, kFin_kif, kReg_kif, kOps_kif, kO_kif, kG_kif, kDrw_kif, kW_kif, kOpsW_kif, kRet_kif, map_kif, bind_kif, kWant_t, kWant_f, kWant_kif, ↓execI_pick, kPick_bool, kPick_kif, ↓execI_iadr, kIadr_sl, ↓execI_idxs, kIdxs_str, ↓execI_len, ↓rdB_ld, kRd_ptr, kRd_tptr, kRd_tup, kRd_kif, kOpsW_bs, gt0, st0, gt1, st1, gt2, st2, gt3, st3, gt4, st4, gt5, st5, gt6, st6, gt7, st7, gt8, st8, -kWant_bool, -Int.not_le, -Int.not_lt, -decide_eq_true_eq, -decide_eq_false_iff_not, -List.getD_eq_getElem?_getD, -List.set_cons_succ, -List.set_cons_zero, -Bool.and_eq_true, -Bool.or_eq_true, -Bool.not_eq_eq_eq_not, -Bool.or_eq_false_iff, -Bool.and_eq_false_imp, -Bool.not_eq_true, -Bool.not_eq_false]
theorem tot22 (K : Nat) (hK : BIG ≤ K) (nm : ByteArray) (w ar st rt bl : V) (h : OkF nm w ar st rt bl) (a b : Int) (ha : 0 ≤ a ∧ a < lenV bl) : RtB (0 < cnt (cel bl a.toNat 4) b (lenV (cel bl a.toNat 4))) (callF tbl pu (K + 1) 22 [.agg [.str nm, w, ar, st, rt, bl], .int .i64 a, .int .i64 b] []) := by
  rw [callF_eq tbl22, c22]
  have gw := LS22 h.w
  have ga := LS23 h.ar
  have gs := LS24 h.st
  have gr := LS22 h.rt
  have gb := LS25 h.bl
  have h1 : decide (a < 0) = false := by simp; omega
  have h2 : decide ((lenV bl : Int) ≤ a) = false := by simp; omega
  obtain ⟨hrow, -, -, -, -, hto, -⟩ := e25 h.bl (i := a.toNat) (by omega)
  have gt := LS85 hto
  have M1 : lenV (cel bl a.toNat 4) < K := big_lt (len85 hto) hK
  rcases loop_go (t0 := T22 b (cel bl a.toNat 4) 0 false) (pre := tidy [2, 15, 16, 17] 0) (fun j t hj ht => g22 (callF tbl pu K) K b _ hto j hj t ht) (fun t ht => x22 (callF tbl pu K) K b _ t ht) ⟨_, rfl, rfl⟩ with ⟨t, ⟨d, hc, rfl⟩, hl⟩ | ⟨r, ⟨hc, hr⟩, hl⟩
  · simp (contextual := true) (maxSteps := 10000000) (implicitDefEqProofs := false) [h1, h2, hrow, gw.all, ga.all, gs.all, gr.all, gb.all, gt.all, kIadr_LS gb, execC_loop, -kIter_succ, kCond_kc, kc_kif, ↓kif_tr, ↓kif_fl, kif_tr, kif_fl, kif_same, ↓kif_not, ↓kif_or, ↓kifg_tr, ↓kifg_fl, ↓kifg_not, ↓kifg_or, ↓kifg_and, kifg_kif, kifB_t, kifB_f, kifB_ft, kifB_tt, kif_bool, kif_int, mergeL, mergeV, mergeS, mergeRs, kSeq_kif, kBlk_kif, kPost_kif, kNext_kif, kFin_kif, kReg_kif, kOps_kif, kO_kif, kG_kif, kDrw_kif, kW_kif, kOpsW_kif, kRet_kif, map_kif, bind_kif, kWant_t, kWant_f, kWant_kif, ↓execI_pick, kPick_bool, kPick_kif, ↓execI_iadr, kIadr_sl, ↓execI_idxs, kIdxs_str, ↓execI_len, ↓rdB_ld, kRd_ptr, kRd_tptr, kRd_tup, kRd_kif, kOpsW_bs, gt0, st0, gt1, st1, gt2, st2, gt3, st3, gt4, st4, gt5, st5, gt6, st6, gt7, st7, gt8, st8, -kWant_bool, -Int.not_le, -Int.not_lt, -decide_eq_true_eq, -decide_eq_false_iff_not, -List.getD_eq_getElem?_getD, -List.set_cons_succ, -List.set_cons_zero, -Bool.and_eq_true, -Bool.or_eq_true, -Bool.not_eq_eq_eq_not, -Bool.or_eq_false_iff, -Bool.and_eq_false_imp, -Bool.not_eq_true, -Bool.not_eq_false]
    rw [hl _ _ M1 (by simp (contextual := true) (maxSteps := 10000000) (implicitDefEqProofs := false) [T22, tidy, gt.all, kCond_kc, kc_kif, ↓kif_tr, ↓kif_fl, kif_tr, kif_fl, kif_same, ↓kif_not, ↓kif_or, ↓kifg_tr, ↓kifg_fl, ↓kifg_not, ↓kifg_or, ↓kifg_and, kifg_kif, kifB_t, kifB_f, kifB_ft, kifB_tt, kif_bool, kif_int, mergeL, mergeV, mergeS, mergeRs, kSeq_kif, kBlk_kif, kPost_kif, kNext_kif, kFin_kif, kReg_kif, kOps_kif, kO_kif, kG_kif, kDrw_kif, kW_kif, kOpsW_kif, kRet_kif, map_kif, bind_kif, kWant_t, kWant_f, kWant_kif, ↓execI_pick, kPick_bool, kPick_kif, ↓execI_iadr, kIadr_sl, ↓execI_idxs, kIdxs_str, ↓execI_len, ↓rdB_ld, kRd_ptr, kRd_tptr, kRd_tup, kRd_kif, kOpsW_bs, gt0, st0, gt1, st1, gt2, st2, gt3, st3, gt4, st4, gt5, st5, gt6, st6, gt7, st7, gt8, st8, -kWant_bool, -Int.not_le, -Int.not_lt, -decide_eq_true_eq, -decide_eq_false_iff_not, -List.getD_eq_getElem?_getD, -List.set_cons_succ, -List.set_cons_zero, -Bool.and_eq_true, -Bool.or_eq_true, -Bool.not_eq_eq_eq_not, -Bool.or_eq_false_iff, -Bool.and_eq_false_imp, -Bool.not_eq_true, -Bool.not_eq_false])]
    simp (contextual := true) (maxSteps := 10000000) (implicitDefEqProofs := false) [T22, c22_b0, gt.all, RtB_some, kCond_kc, kc_kif, ↓kif_tr, ↓kif_fl, kif_tr, kif_fl, kif_same, ↓kif_not, ↓kif_or, ↓kifg_tr, ↓kifg_fl, ↓kifg_not, ↓kifg_or, ↓kifg_and, kifg_kif, kifB_t, kifB_f, kifB_ft, kifB_tt, kif_bool, kif_int, mergeL, mergeV, mergeS, mergeRs, kSeq_kif, kBlk_kif, kPost_kif, kNext_kif, kFin_kif, kReg_kif, kOps_kif, kO_kif, kG_kif, kDrw_kif, kW_kif, kOpsW_kif, kRet_kif, map_kif, bind_kif, kWant_t, kWant_f, kWant_kif, ↓execI_pick, kPick_bool, kPick_kif, ↓execI_iadr, kIadr_sl, ↓execI_idxs, kIdxs_str, ↓execI_len, ↓rdB_ld, kRd_ptr, kRd_tptr, kRd_tup, kRd_kif, kOpsW_bs, gt0, st0, gt1, st1, gt2, st2, gt3, st3, gt4, st4, gt5, st5, gt6, st6, gt7, st7, gt8, st8, -kWant_bool, -Int.not_le, -Int.not_lt, -decide_eq_true_eq, -decide_eq_false_iff_not, -List.getD_eq_getElem?_getD, -List.set_cons_succ, -List.set_cons_zero, -Bool.and_eq_true, -Bool.or_eq_true, -Bool.not_eq_eq_eq_not, -Bool.or_eq_false_iff, -Bool.and_eq_false_imp, -Bool.not_eq_true, -Bool.not_eq_false]
    omega
  · obtain ⟨fr, H, d', rfl, h'⟩ := RtN_eq hr
    simp (contextual := true) (maxSteps := 10000000) (implicitDefEqProofs := false) [h1, h2, hrow, gw.all, ga.all, gs.all, gr.all, gb.all, gt.all, kIadr_LS gb, execC_loop, -kIter_succ, kCond_kc, kc_kif, ↓kif_tr, ↓kif_fl, kif_tr, kif_fl, kif_same, ↓kif_not, ↓kif_or, ↓kifg_tr, ↓kifg_fl, ↓kifg_not, ↓kifg_or, ↓kifg_and, kifg_kif, kifB_t, kifB_f, kifB_ft, kifB_tt, kif_bool, kif_int, mergeL, mergeV, mergeS, mergeRs, kSeq_kif, kBlk_kif, kPost_kif, kNext_kif, kFin_kif, kReg_kif, kOps_kif, kO_kif, kG_kif, kDrw_kif, kW_kif, kOpsW_kif, kRet_kif, map_kif, bind_kif, kWant_t, kWant_f, kWant_kif, ↓execI_pick, kPick_bool, kPick_kif, ↓execI_iadr, kIadr_sl, ↓execI_idxs, kIdxs_str, ↓execI_len, ↓rdB_ld, kRd_ptr, kRd_tptr, kRd_tup, kRd_kif, kOpsW_bs, gt0, st0, gt1, st1, gt2, st2, gt3, st3, gt4, st4, gt5, st5, gt6, st6, gt7, st7, gt8, st8, -kWant_bool, -Int.not_le, -Int.not_lt, -decide_eq_true_eq, -decide_eq_false_iff_not, -List.getD_eq_getElem?_getD, -List.set_cons_succ, -List.set_cons_zero, -Bool.and_eq_true, -Bool.or_eq_true, -Bool.not_eq_eq_eq_not, -Bool.or_eq_false_iff, -Bool.and_eq_false_imp, -Bool.not_eq_true, -Bool.not_eq_false]
    rw [hl _ _ M1 (by simp (contextual := true) (maxSteps := 10000000) (implicitDefEqProofs := false) [T22, tidy, gt.all, kCond_kc, kc_kif, ↓kif_tr, ↓kif_fl, kif_tr, kif_fl, kif_same, ↓kif_not, ↓kif_or, ↓kifg_tr, ↓kifg_fl, ↓kifg_not, ↓kifg_or, ↓kifg_and, kifg_kif, kifB_t, kifB_f, kifB_ft, kifB_tt, kif_bool, kif_int, mergeL, mergeV, mergeS, mergeRs, kSeq_kif, kBlk_kif, kPost_kif, kNext_kif, kFin_kif, kReg_kif, kOps_kif, kO_kif, kG_kif, kDrw_kif, kW_kif, kOpsW_kif, kRet_kif, map_kif, bind_kif, kWant_t, kWant_f, kWant_kif, ↓execI_pick, kPick_bool, kPick_kif, ↓execI_iadr, kIadr_sl, ↓execI_idxs, kIdxs_str, ↓execI_len, ↓rdB_ld, kRd_ptr, kRd_tptr, kRd_tup, kRd_kif, kOpsW_bs, gt0, st0, gt1, st1, gt2, st2, gt3, st3, gt4, st4, gt5, st5, gt6, st6, gt7, st7, gt8, st8, -kWant_bool, -Int.not_le, -Int.not_lt, -decide_eq_true_eq, -decide_eq_false_iff_not, -List.getD_eq_getElem?_getD, -List.set_cons_succ, -List.set_cons_zero, -Bool.and_eq_true, -Bool.or_eq_true, -Bool.not_eq_eq_eq_not, -Bool.or_eq_false_iff, -Bool.and_eq_false_imp, -Bool.not_eq_true, -Bool.not_eq_false])]
    simp (contextual := true) (maxSteps := 10000000) (implicitDefEqProofs := false) [fin_n rfl h', RtB_some, kCond_kc, kc_kif, ↓kif_tr, ↓kif_fl, kif_tr, kif_fl, kif_same, ↓kif_not, ↓kif_or, ↓kifg_tr, ↓kifg_fl, ↓kifg_not, ↓kifg_or, ↓kifg_and, kifg_kif, kifB_t, kifB_f, kifB_ft, kifB_tt, kif_bool, kif_int, mergeL, mergeV, mergeS, mergeRs, kSeq_kif, kBlk_kif, kPost_kif, kNext_kif, kFin_kif, kReg_kif, kOps_kif, kO_kif, kG_kif, kDrw_kif, kW_kif, kOpsW_kif, kRet_kif, map_kif, bind_kif, kWant_t, kWant_f, kWant_kif, ↓execI_pick, kPick_bool, kPick_kif, ↓execI_iadr, kIadr_sl, ↓execI_idxs, kIdxs_str, ↓execI_len, ↓rdB_ld, kRd_ptr, kRd_tptr, kRd_tup, kRd_kif, kOpsW_bs, gt0, st0, gt1, st1, gt2, st2, gt3, st3, gt4, st4, gt5, st5, gt6, st6, gt7, st7, gt8, st8, -kWant_bool, -Int.not_le, -Int.not_lt, -decide_eq_true_eq, -decide_eq_false_iff_not, -List.getD_eq_getElem?_getD, -List.set_cons_succ, -List.set_cons_zero, -Bool.and_eq_true, -Bool.or_eq_true, -Bool.not_eq_eq_eq_not, -Bool.or_eq_false_iff, -Bool.and_eq_false_imp, -Bool.not_eq_true, -Bool.not_eq_false]
    exact hc
/-! cycles.Self -/
def T23 (b x : Int) (to : V) (j : Nat) (d : Bool) : St := ⟨[.undef, .undef, .int .i64 b, .undef, .undef, .undef, .undef, .int .i64 x, .undef, .undef, .undef, .undef, .undef, .undef, .undef, .undef, .undef, .undef, .undef, .undef, .undef, .undef, .undef, .undef, .undef, .undef, .undef, .undef, .undef, .undef, .undef, .undef, .undef, .undef, .undef, .undef, .undef, .undef, .undef, to, .int .i64 (lenV to), .int .i64 j, .undef, .undef, .undef, .undef, .undef, .undef, .undef, .undef, .undef, .undef, .undef, .undef, .undef, .undef, .undef], [], d⟩
def I23 (b : Int) (to : V) (j : Nat) (t : St) : Prop := ∃ x d, ((cnt to b j = 0 ∧ x = -1) ∨ (cnt to b j = 1 ∧ 0 ≤ x)) ∧ t = T23 b x to j d
def R23 (b : Int) (to : V) (r : Ex × St) : Prop := cnt to b (lenV to) ≠ 1 ∧ RtN 6 (.int .i64 (-1)) r
theorem g23 (call : CallT) (K : Nat) (b : Int) (to : V) (hto : S85 [to]) (j : Nat) (hj : j < lenV to) (t : St) (ht : I23 b to j t) : Go1 (tidy [2, 7, 39, 40, 41] 0) (I23 b to (j + 1)) (R23 b to) (execC call pu 0 K c23_b0 t) := by
  obtain ⟨x, d, hc, rfl⟩ := ht
  have hL := len85 hto
  simp only [LMAX] at hL
  have gt := LS85 hto
  have h1 : IntKind.i64.wrap ((j : Int) + 1) = (j : Int) + 1 := wrap64 (by omega) (by omega)
  have h3 : decide (lenV to ≤ j) = false := by simp; omega
  have h4 : decide (j < lenV to) = true := by simp; omega
  obtain ⟨hrow, -, ha⟩ := e85 hto hj
  have gA := LS22 ha
  by_cases hx : ic to j 0 = b
  · have h5 : decide (ic to j 0 = b) = true := by simp [hx]
    rcases hc with ⟨hc, rfl⟩ | ⟨hc, hx0⟩
    · have fin : ∀ d, I23 b to (j + 1) (T23 b j to (j + 1) d) := fun d => ⟨j, d, .inr ⟨by simp [cnt, hc, hx], by omega⟩, rfl⟩
      generalize I23 b to (j + 1) = II at fin ⊢
      simp only [T23, Int.natCast_add, Int.natCast_one] at fin
      unfold c23_b0 T23
      simp (contextual := true) (maxSteps := 10000000) (implicitDefEqProofs := false) [h1, h3, h4, h5, hrow, gt.all, gA.all, kIadr_LS gt, freezeH, fin, Go1_kif, Go1_ret, Go1_normal, Go1_exit, RtF_ret, ex_eq, ex_eq2, tidy, kCond_kc, kc_kif, ↓kif_tr, ↓kif_fl, kif_tr, kif_fl, kif_same, ↓kif_not, ↓kif_or, ↓kifg_tr, ↓kifg_fl, ↓kifg_not, ↓kifg_or, ↓kifg_and, kifg_kif, kifB_t, kifB_f, kifB_ft, kifB_tt, kif_bool, kif_int, mergeL, mergeV, mergeS, mergeRs, kSeq_kif, kBlk_kif, kPost_kif, kNext_kif, kFin_kif, kReg_kif, kOps_kif, kO_kif, kG_kif, kDrw_kif, kW_kif, kOpsW_kif, kRet_kif, map_kif, bind_kif, kWant_t, kWant_f, kWant_kif, ↓execI_pick, kPick_bool, kPick_kif, ↓execI_iadr, kIadr_sl, ↓execI_idxs, kIdxs_str, ↓execI_len, ↓rdB_ld, kRd_ptr, kRd_tptr, kRd_tup, kRd_kif, kOpsW_bs, gt0, st0, gt1, st1, gt2, st2, gt3, st3, gt4, st4, gt5, st5, gt6, st6, gt7, st7, gt8, st8, -kWant_bool, -Int.not_le, -Int.not_lt, -decide_eq_true_eq, -decide_eq_false_iff_not, -List.getD_eq_getElem?_getD, -List.set_cons_succ, -List.set_cons_zero, -Bool.and_eq_true, -Bool.or_eq_true, -Bool.not_eq_eq_eq_not, -Bool.or_eq_false_iff, -Bool.and_eq_false_imp, -Bool.not_eq_true, -Bool.not_eq_false]
    · have h6 : decide (0 ≤ x) = true := by simp; omega
      have h7 : cnt to b (lenV to) ≠ 1 := by
        have := cnt_le (to := to) (b := b) (i := j + 1) (j := lenV to) (by omega)
        simp only [cnt, hx, if_true] at this
        omega
      unfold c23_b0 T23
      simp (contextual := true) (maxSteps := 10000000) (implicitDefEqProofs := false) [h1, h3, h4, h5, h6, h7, hrow, gt.all, gA.all, kIadr_LS gt, freezeH, Go1_kif, Go1_ret, Go1_normal, Go1_exit, RtF_ret, ex_eq, ex_eq2, tidy, R23, RtN_ret, kCond_kc, kc_kif, ↓kif_tr, ↓kif_fl, kif_tr, kif_fl, kif_same, ↓kif_not, ↓kif_or, ↓kifg_tr, ↓kifg_fl, ↓kifg_not, ↓kifg_or, ↓kifg_and, kifg_kif, kifB_t, kifB_f, kifB_ft, kifB_tt, kif_bool, kif_int, mergeL, mergeV, mergeS, mergeRs, kSeq_kif, kBlk_kif, kPost_kif, kNext_kif, kFin_kif, kReg_kif, kOps_kif, kO_kif, kG_kif, kDrw_kif, kW_kif, kOpsW_kif, kRet_kif, map_kif, bind_kif, kWant_t, kWant_f, kWant_kif, ↓execI_pick, kPick_bool, kPick_kif, ↓execI_iadr, kIadr_sl, ↓execI_idxs, kIdxs_str, ↓execI_len, ↓rdB_ld, kRd_ptr, kRd_tptr, kRd_tup, kRd_kif, kOpsW_bs, gt0, st0, gt1, st1, gt2, st2, gt3, st3, gt4, st4, gt5, st5, gt6, st6, gt7, st7, gt8, st8, -kWant_bool, -Int.not_le, -Int.not_lt, -decide_eq_true_eq, -decide_eq_false_iff_not, -List.getD_eq_getElem?_getD, -List.set_cons_succ, -List.set_cons_zero, -Bool.and_eq_true, -Bool.or_eq_true, -Bool.not_eq_eq_eq_not, -Bool.or_eq_false_iff, -Bool.and_eq_false_imp, -Bool.not_eq_true, -Bool.not_eq_false]
  · have h5 : decide (ic to j 0 = b) = false := by simp [hx]
    have fin : ∀ d, I23 b to (j + 1) (T23 b x to (j + 1) d) := fun d => ⟨x, d, by simpa [cnt, hx] using hc, rfl⟩
    generalize I23 b to (j + 1) = II at fin ⊢
    simp only [T23, Int.natCast_add, Int.natCast_one] at fin
    unfold c23_b0 T23
    simp (contextual := true) (maxSteps := 10000000) (implicitDefEqProofs := false) [h1, h3, h4, h5, hrow, gt.all, gA.all, kIadr_LS gt, freezeH, fin, Go1_kif, Go1_ret, Go1_normal, Go1_exit, RtF_ret, ex_eq, ex_eq2, tidy, kCond_kc, kc_kif, ↓kif_tr, ↓kif_fl, kif_tr, kif_fl, kif_same, ↓kif_not, ↓kif_or, ↓kifg_tr, ↓kifg_fl, ↓kifg_not, ↓kifg_or, ↓kifg_and, kifg_kif, kifB_t, kifB_f, kifB_ft, kifB_tt, kif_bool, kif_int, mergeL, mergeV, mergeS, mergeRs, kSeq_kif, kBlk_kif, kPost_kif, kNext_kif, kFin_kif, kReg_kif, kOps_kif, kO_kif, kG_kif, kDrw_kif, kW_kif, kOpsW_kif, kRet_kif, map_kif, bind_kif, kWant_t, kWant_f, kWant_kif, ↓execI_pick, kPick_bool, kPick_kif, ↓execI_iadr, kIadr_sl, ↓execI_idxs, kIdxs_str, ↓execI_len, ↓rdB_ld, kRd_ptr, kRd_tptr, kRd_tup, kRd_kif, kOpsW_bs, gt0, st0, gt1, st1, gt2, st2, gt3, st3, gt4, st4, gt5, st5, gt6, st6, gt7, st7, gt8, st8, -kWant_bool, -Int.not_le, -Int.not_lt, -decide_eq_true_eq, -decide_eq_false_iff_not, -List.getD_eq_getElem?_getD, -List.set_cons_succ, -List.set_cons_zero, -Bool.and_eq_true, -Bool.or_eq_true, -Bool.not_eq_eq_eq_not, -Bool.or_eq_false_iff, -Bool.and_eq_false_imp, -Bool.not_eq_true, -Bool.not_eq_false]
theorem x23 (call : CallT) (K : Nat) (b : Int) (to : V) (t : St) (ht : I23 b to (lenV to) t) : Nn (execC call pu 0 K c23_b0 t) := by
  obtain ⟨x, d, hc, rfl⟩ := ht
  unfold c23_b0 T23
  simp (contextual := true) (maxSteps := 10000000) (implicitDefEqProofs := false) [Nn_exit, kCond_kc, kc_kif, ↓kif_tr, ↓kif_fl, kif_tr, kif_fl, kif_same, ↓kif_not, ↓kif_or, ↓kifg_tr, ↓kifg_fl, ↓kifg_not, ↓kifg_or, ↓kifg_and, kifg_kif, kifB_t, kifB_f, kifB_ft, kifB_tt, kif_bool, kif_int, mergeL, mergeV, mergeS, mergeRs, kSeq_kif, kBlk_kif, kPost_kif, kNext_kif, kFin_kif, kReg_kif, kOps_kif, kO_kif, kG_kif, kDrw_kif, kW_kif, kOpsW_kif, kRet_kif, map_kif, bind_kif, kWant_t, kWant_f, kWant_kif, ↓execI_pick, kPick_bool, kPick_kif, ↓execI_iadr, kIadr_sl, ↓execI_idxs, kIdxs_str, ↓execI_len, ↓rdB_ld, kRd_ptr, kRd_tptr, kRd_tup, kRd_kif, kOpsW_bs, gt0, st0, gt1, st1, gt2, st2, gt3, st3, gt4, st4, gt5, st5, gt6, st6, gt7, st7, gt8, st8, -kWant_bool, -Int.not_le, -Int.not_lt, -decide_eq_true_eq, -decide_eq_false_iff_not, -List.getD_eq_getElem?_getD, -List.set_cons_succ, -List.set_cons_zero, -Bool.and_eq_true, -Bool.or_eq_true, -Bool.not_eq_eq_eq_not, -Bool.or_eq_false_iff, -Bool.and_eq_false_imp, -Bool.not_eq_true, -Bool.not_eq_false]
/-- a block is pipelined, and one edge leads to the block itself -/
def SPp (bl sc : V) (b : Int) : Prop := 0 ≤ b ∧ b < lenV bl ∧ b < lenV sc ∧ 0 < ic sc b.toNat 0 ∧ cnt (cel bl b.toNat 4) b (lenV (cel bl b.toNat 4)) = 1
theorem sc_row {v : V} (h : S28 [v]) {x : Int} (h1 : decide (x < 0) = false) (h2 : decide ((lenV v : Int) ≤ x) = false) : row v x.toNat = [.int .i64 (ic v x.toNat 0), .int .i64 (ic v x.toNat 1), cel v x.toNat 2, cel v x.toNat 3, cel v x.toNat 4] := by
  simp at h1 h2
  exact (e28 h (by omega)).1
theorem tot23 (K : Nat) (hK : BIG ≤ K) (nm : ByteArray) (w ar st rt bl : V) (h : OkF nm w ar st rt bl) (sc : V) (hs : S28 [sc]) (b : Int) : RtI .i64 (fun n => 0 ≤ n ↔ SPp bl sc b) (callF tbl pu (K + 1) 23 [.agg [.str nm, w, ar, st, rt, bl], sc, .int .i64 b] []) := by
  rw [callF_eq tbl23, c23]
  have gw := LS22 h.w
  have ga := LS23 h.ar
  have gs := LS24 h.st
  have gr := LS22 h.rt
  have gb := LS25 h.bl
  have gc := LS28 hs
  by_cases c1 : b < 0
  · have h1 : decide (b < 0) = true := by simp; omega
    simp (contextual := true) (maxSteps := 10000000) (implicitDefEqProofs := false) [h1, gw.all, ga.all, gs.all, gr.all, gb.all, gc.all, RtI_some, kCond_kc, kc_kif, ↓kif_tr, ↓kif_fl, kif_tr, kif_fl, kif_same, ↓kif_not, ↓kif_or, ↓kifg_tr, ↓kifg_fl, ↓kifg_not, ↓kifg_or, ↓kifg_and, kifg_kif, kifB_t, kifB_f, kifB_ft, kifB_tt, kif_bool, kif_int, mergeL, mergeV, mergeS, mergeRs, kSeq_kif, kBlk_kif, kPost_kif, kNext_kif, kFin_kif, kReg_kif, kOps_kif, kO_kif, kG_kif, kDrw_kif, kW_kif, kOpsW_kif, kRet_kif, map_kif, bind_kif, kWant_t, kWant_f, kWant_kif, ↓execI_pick, kPick_bool, kPick_kif, ↓execI_iadr, kIadr_sl, ↓execI_idxs, kIdxs_str, ↓execI_len, ↓rdB_ld, kRd_ptr, kRd_tptr, kRd_tup, kRd_kif, kOpsW_bs, gt0, st0, gt1, st1, gt2, st2, gt3, st3, gt4, st4, gt5, st5, gt6, st6, gt7, st7, gt8, st8, -kWant_bool, -Int.not_le, -Int.not_lt, -decide_eq_true_eq, -decide_eq_false_iff_not, -List.getD_eq_getElem?_getD, -List.set_cons_succ, -List.set_cons_zero, -Bool.and_eq_true, -Bool.or_eq_true, -Bool.not_eq_eq_eq_not, -Bool.or_eq_false_iff, -Bool.and_eq_false_imp, -Bool.not_eq_true, -Bool.not_eq_false]
    unfold SPp; omega
  have h1 : decide (b < 0) = false := by simp; omega
  by_cases c2 : (lenV bl : Int) ≤ b
  · have h2 : decide ((lenV bl : Int) ≤ b) = true := by simp; omega
    simp (contextual := true) (maxSteps := 10000000) (implicitDefEqProofs := false) [h1, h2, gw.all, ga.all, gs.all, gr.all, gb.all, gc.all, RtI_some, kCond_kc, kc_kif, ↓kif_tr, ↓kif_fl, kif_tr, kif_fl, kif_same, ↓kif_not, ↓kif_or, ↓kifg_tr, ↓kifg_fl, ↓kifg_not, ↓kifg_or, ↓kifg_and, kifg_kif, kifB_t, kifB_f, kifB_ft, kifB_tt, kif_bool, kif_int, mergeL, mergeV, mergeS, mergeRs, kSeq_kif, kBlk_kif, kPost_kif, kNext_kif, kFin_kif, kReg_kif, kOps_kif, kO_kif, kG_kif, kDrw_kif, kW_kif, kOpsW_kif, kRet_kif, map_kif, bind_kif, kWant_t, kWant_f, kWant_kif, ↓execI_pick, kPick_bool, kPick_kif, ↓execI_iadr, kIadr_sl, ↓execI_idxs, kIdxs_str, ↓execI_len, ↓rdB_ld, kRd_ptr, kRd_tptr, kRd_tup, kRd_kif, kOpsW_bs, gt0, st0, gt1, st1, gt2, st2, gt3, st3, gt4, st4, gt5, st5, gt6, st6, gt7, st7, gt8, st8, -kWant_bool, -Int.not_le, -Int.not_lt, -decide_eq_true_eq, -decide_eq_false_iff_not, -List.getD_eq_getElem?_getD, -List.set_cons_succ, -List.set_cons_zero, -Bool.and_eq_true, -Bool.or_eq_true, -Bool.not_eq_eq_eq_not, -Bool.or_eq_false_iff, -Bool.and_eq_false_imp, -Bool.not_eq_true, -Bool.not_eq_false]
    unfold SPp; omega
  have h2 : decide ((lenV bl : Int) ≤ b) = false := by simp; omega
  by_cases c3 : (lenV sc : Int) ≤ b
  · have h3 : decide ((lenV sc : Int) ≤ b) = true := by simp; omega
    simp (contextual := true) (maxSteps := 10000000) (implicitDefEqProofs := false) [h1, h2, h3, gw.all, ga.all, gs.all, gr.all, gb.all, gc.all, RtI_some, kCond_kc, kc_kif, ↓kif_tr, ↓kif_fl, kif_tr, kif_fl, kif_same, ↓kif_not, ↓kif_or, ↓kifg_tr, ↓kifg_fl, ↓kifg_not, ↓kifg_or, ↓kifg_and, kifg_kif, kifB_t, kifB_f, kifB_ft, kifB_tt, kif_bool, kif_int, mergeL, mergeV, mergeS, mergeRs, kSeq_kif, kBlk_kif, kPost_kif, kNext_kif, kFin_kif, kReg_kif, kOps_kif, kO_kif, kG_kif, kDrw_kif, kW_kif, kOpsW_kif, kRet_kif, map_kif, bind_kif, kWant_t, kWant_f, kWant_kif, ↓execI_pick, kPick_bool, kPick_kif, ↓execI_iadr, kIadr_sl, ↓execI_idxs, kIdxs_str, ↓execI_len, ↓rdB_ld, kRd_ptr, kRd_tptr, kRd_tup, kRd_kif, kOpsW_bs, gt0, st0, gt1, st1, gt2, st2, gt3, st3, gt4, st4, gt5, st5, gt6, st6, gt7, st7, gt8, st8, -kWant_bool, -Int.not_le, -Int.not_lt, -decide_eq_true_eq, -decide_eq_false_iff_not, -List.getD_eq_getElem?_getD, -List.set_cons_succ, -List.set_cons_zero, -Bool.and_eq_true, -Bool.or_eq_true, -Bool.not_eq_eq_eq_not, -Bool.or_eq_false_iff, -Bool.and_eq_false_imp, -Bool.not_eq_true, -Bool.not_eq_false]
    unfold SPp; omega
  have h3 : decide ((lenV sc : Int) ≤ b) = false := by simp; omega
  have hr := sc_row hs h1 h3
  by_cases c4 : ic sc b.toNat 0 ≤ 0
  · have h4 : decide (ic sc b.toNat 0 ≤ 0) = true := by simp; omega
    simp (contextual := true) (maxSteps := 10000000) (implicitDefEqProofs := false) [h1, h2, h3, h4, hr, gw.all, ga.all, gs.all, gr.all, gb.all, gc.all, kIadr_LS gc, RtI_some, kCond_kc, kc_kif, ↓kif_tr, ↓kif_fl, kif_tr, kif_fl, kif_same, ↓kif_not, ↓kif_or, ↓kifg_tr, ↓kifg_fl, ↓kifg_not, ↓kifg_or, ↓kifg_and, kifg_kif, kifB_t, kifB_f, kifB_ft, kifB_tt, kif_bool, kif_int, mergeL, mergeV, mergeS, mergeRs, kSeq_kif, kBlk_kif, kPost_kif, kNext_kif, kFin_kif, kReg_kif, kOps_kif, kO_kif, kG_kif, kDrw_kif, kW_kif, kOpsW_kif, kRet_kif, map_kif, bind_kif, kWant_t, kWant_f, kWant_kif, ↓execI_pick, kPick_bool, kPick_kif, ↓execI_iadr, kIadr_sl, ↓execI_idxs, kIdxs_str, ↓execI_len, ↓rdB_ld, kRd_ptr, kRd_tptr, kRd_tup, kRd_kif, kOpsW_bs, gt0, st0, gt1, st1, gt2, st2, gt3, st3, gt4, st4, gt5, st5, gt6, st6, gt7, st7, gt8, st8, -kWant_bool, -Int.not_le, -Int.not_lt, -decide_eq_true_eq, -decide_eq_false_iff_not, -List.getD_eq_getElem?_getD, -List.set_cons_succ, -List.set_cons_zero, -Bool.and_eq_true, -Bool.or_eq_true, -Bool.not_eq_eq_eq_not, -Bool.or_eq_false_iff, -Bool.and_eq_false_imp, -Bool.not_eq_true, -Bool.not_eq_false]
    unfold SPp; omega
  have h4 : decide (ic sc b.toNat 0 ≤ 0) = false := by simp; omega
  obtain ⟨hrow, -, -, -, -, hto, -⟩ := e25 h.bl (i := b.toNat) (by omega)
  have gt := LS85 hto
  have M1 : lenV (cel bl b.toNat 4) < K := big_lt (len85 hto) hK
  rcases loop_go (t0 := T23 b (-1) (cel bl b.toNat 4) 0 false) (pre := tidy [2, 7, 39, 40, 41] 0) (fun j t hj ht => g23 (callF tbl pu K) K b _ hto j hj t ht) (fun t ht => x23 (callF tbl pu K) K b _ t ht) ⟨_, _, .inl ⟨rfl, rfl⟩, rfl⟩ with ⟨t, ⟨x, d, hc, rfl⟩, hl⟩ | ⟨r, ⟨hc, hr'⟩, hl⟩
  · simp (contextual := true) (maxSteps := 10000000) (implicitDefEqProofs := false) [h1, h2, h3, h4, hr, hrow, gw.all, ga.all, gs.all, gr.all, gb.all, gt.all, gc.all, kIadr_LS gb, kIadr_LS gc, execC_loop, -kIter_succ, kCond_kc, kc_kif, ↓kif_tr, ↓kif_fl, kif_tr, kif_fl, kif_same, ↓kif_not, ↓kif_or, ↓kifg_tr, ↓kifg_fl, ↓kifg_not, ↓kifg_or, ↓kifg_and, kifg_kif, kifB_t, kifB_f, kifB_ft, kifB_tt, kif_bool, kif_int, mergeL, mergeV, mergeS, mergeRs, kSeq_kif, kBlk_kif, kPost_kif, kNext_kif, kFin_kif, kReg_kif, kOps_kif, kO_kif, kG_kif, kDrw_kif, kW_kif, kOpsW_kif, kRet_kif, map_kif, bind_kif, kWant_t, kWant_f, kWant_kif, ↓execI_pick, kPick_bool, kPick_kif, ↓execI_iadr, kIadr_sl, ↓execI_idxs, kIdxs_str, ↓execI_len, ↓rdB_ld, kRd_ptr, kRd_tptr, kRd_tup, kRd_kif, kOpsW_bs, gt0, st0, gt1, st1, gt2, st2, gt3, st3, gt4, st4, gt5, st5, gt6, st6, gt7, st7, gt8, st8, -kWant_bool, -Int.not_le, -Int.not_lt, -decide_eq_true_eq, -decide_eq_false_iff_not, -List.getD_eq_getElem?_getD, -List.set_cons_succ, -List.set_cons_zero, -Bool.and_eq_true, -Bool.or_eq_true, -Bool.not_eq_eq_eq_not, -Bool.or_eq_false_iff, -Bool.and_eq_false_imp, -Bool.not_eq_true, -Bool.not_eq_false]
    rw [hl _ _ M1 (by simp (contextual := true) (maxSteps := 10000000) (implicitDefEqProofs := false) [T23, tidy, gt.all, kCond_kc, kc_kif, ↓kif_tr, ↓kif_fl, kif_tr, kif_fl, kif_same, ↓kif_not, ↓kif_or, ↓kifg_tr, ↓kifg_fl, ↓kifg_not, ↓kifg_or, ↓kifg_and, kifg_kif, kifB_t, kifB_f, kifB_ft, kifB_tt, kif_bool, kif_int, mergeL, mergeV, mergeS, mergeRs, kSeq_kif, kBlk_kif, kPost_kif, kNext_kif, kFin_kif, kReg_kif, kOps_kif, kO_kif, kG_kif, kDrw_kif, kW_kif, kOpsW_kif, kRet_kif, map_kif, bind_kif, kWant_t, kWant_f, kWant_kif, ↓execI_pick, kPick_bool, kPick_kif, ↓execI_iadr, kIadr_sl, ↓execI_idxs, kIdxs_str, ↓execI_len, ↓rdB_ld, kRd_ptr, kRd_tptr, kRd_tup, kRd_kif, kOpsW_bs, gt0, st0, gt1, st1, gt2, st2, gt3, st3, gt4, st4, gt5, st5, gt6, st6, gt7, st7, gt8, st8, -kWant_bool, -Int.not_le, -Int.not_lt, -decide_eq_true_eq, -decide_eq_false_iff_not, -List.getD_eq_getElem?_getD, -List.set_cons_succ, -List.set_cons_zero, -Bool.and_eq_true, -Bool.or_eq_true, -Bool.not_eq_eq_eq_not, -Bool.or_eq_false_iff, -Bool.and_eq_false_imp, -Bool.not_eq_true, -Bool.not_eq_false])]
    simp (contextual := true) (maxSteps := 10000000) (implicitDefEqProofs := false) [T23, c23_b0, gt.all, RtI_some, kCond_kc, kc_kif, ↓kif_tr, ↓kif_fl, kif_tr, kif_fl, kif_same, ↓kif_not, ↓kif_or, ↓kifg_tr, ↓kifg_fl, ↓kifg_not, ↓kifg_or, ↓kifg_and, kifg_kif, kifB_t, kifB_f, kifB_ft, kifB_tt, kif_bool, kif_int, mergeL, mergeV, mergeS, mergeRs, kSeq_kif, kBlk_kif, kPost_kif, kNext_kif, kFin_kif, kReg_kif, kOps_kif, kO_kif, kG_kif, kDrw_kif, kW_kif, kOpsW_kif, kRet_kif, map_kif, bind_kif, kWant_t, kWant_f, kWant_kif, ↓execI_pick, kPick_bool, kPick_kif, ↓execI_iadr, kIadr_sl, ↓execI_idxs, kIdxs_str, ↓execI_len, ↓rdB_ld, kRd_ptr, kRd_tptr, kRd_tup, kRd_kif, kOpsW_bs, gt0, st0, gt1, st1, gt2, st2, gt3, st3, gt4, st4, gt5, st5, gt6, st6, gt7, st7, gt8, st8, -kWant_bool, -Int.not_le, -Int.not_lt, -decide_eq_true_eq, -decide_eq_false_iff_not, -List.getD_eq_getElem?_getD, -List.set_cons_succ, -List.set_cons_zero, -Bool.and_eq_true, -Bool.or_eq_true, -Bool.not_eq_eq_eq_not, -Bool.or_eq_false_iff, -Bool.and_eq_false_imp, -Bool.not_eq_true, -Bool.not_eq_false]
    unfold SPp; omega
  · obtain ⟨fr, H, d', rfl, h'⟩ := RtN_eq hr'
    simp (contextual := true) (maxSteps := 10000000) (implicitDefEqProofs := false) [h1, h2, h3, h4, hr, hrow, gw.all, ga.all, gs.all, gr.all, gb.all, gt.all, gc.all, kIadr_LS gb, kIadr_LS gc, execC_loop, -kIter_succ, kCond_kc, kc_kif, ↓kif_tr, ↓kif_fl, kif_tr, kif_fl, kif_same, ↓kif_not, ↓kif_or, ↓kifg_tr, ↓kifg_fl, ↓kifg_not, ↓kifg_or, ↓kifg_and, kifg_kif, kifB_t, kifB_f, kifB_ft, kifB_tt, kif_bool, kif_int, mergeL, mergeV, mergeS, mergeRs, kSeq_kif, kBlk_kif, kPost_kif, kNext_kif, kFin_kif, kReg_kif, kOps_kif, kO_kif, kG_kif, kDrw_kif, kW_kif, kOpsW_kif, kRet_kif, map_kif, bind_kif, kWant_t, kWant_f, kWant_kif, ↓execI_pick, kPick_bool, kPick_kif, ↓execI_iadr, kIadr_sl, ↓execI_idxs, kIdxs_str, ↓execI_len, ↓rdB_ld, kRd_ptr, kRd_tptr, kRd_tup, kRd_kif, kOpsW_bs, gt0, st0, gt1, st1, gt2, st2, gt3, st3, gt4, st4, gt5, st5, gt6, st6, gt7, st7, gt8, st8, -kWant_bool, -Int.not_le, -Int.not_lt, -decide_eq_true_eq, -decide_eq_false_iff_not, -List.getD_eq_getElem?_getD, -List.set_cons_succ, -List.set_cons_zero, -Bool.and_eq_true, -Bool.or_eq_true, -Bool.not_eq_eq_eq_not, -Bool.or_eq_false_iff, -Bool.and_eq_false_imp, -Bool.not_eq_true, -Bool.not_eq_false]
    rw [hl _ _ M1 (by simp (contextual := true) (maxSteps := 10000000) (implicitDefEqProofs := false) [T23, tidy, gt.all, kCond_kc, kc_kif, ↓kif_tr, ↓kif_fl, kif_tr, kif_fl, kif_same, ↓kif_not, ↓kif_or, ↓kifg_tr, ↓kifg_fl, ↓kifg_not, ↓kifg_or, ↓kifg_and, kifg_kif, kifB_t, kifB_f, kifB_ft, kifB_tt, kif_bool, kif_int, mergeL, mergeV, mergeS, mergeRs, kSeq_kif, kBlk_kif, kPost_kif, kNext_kif, kFin_kif, kReg_kif, kOps_kif, kO_kif, kG_kif, kDrw_kif, kW_kif, kOpsW_kif, kRet_kif, map_kif, bind_kif, kWant_t, kWant_f, kWant_kif, ↓execI_pick, kPick_bool, kPick_kif, ↓execI_iadr, kIadr_sl, ↓execI_idxs, kIdxs_str, ↓execI_len, ↓rdB_ld, kRd_ptr, kRd_tptr, kRd_tup, kRd_kif, kOpsW_bs, gt0, st0, gt1, st1, gt2, st2, gt3, st3, gt4, st4, gt5, st5, gt6, st6, gt7, st7, gt8, st8, -kWant_bool, -Int.not_le, -Int.not_lt, -decide_eq_true_eq, -decide_eq_false_iff_not, -List.getD_eq_getElem?_getD, -List.set_cons_succ, -List.set_cons_zero, -Bool.and_eq_true, -Bool.or_eq_true, -Bool.not_eq_eq_eq_not, -Bool.or_eq_false_iff, -Bool.and_eq_false_imp, -Bool.not_eq_true, -Bool.not_eq_false])]
    simp (contextual := true) (maxSteps := 10000000) (implicitDefEqProofs := false) [fin_n rfl h', RtI_some, kCond_kc, kc_kif, ↓kif_tr, ↓kif_fl, kif_tr, kif_fl, kif_same, ↓kif_not, ↓kif_or, ↓kifg_tr, ↓kifg_fl, ↓kifg_not, ↓kifg_or, ↓kifg_and, kifg_kif, kifB_t, kifB_f, kifB_ft, kifB_tt, kif_bool, kif_int, mergeL, mergeV, mergeS, mergeRs, kSeq_kif, kBlk_kif, kPost_kif, kNext_kif, kFin_kif, kReg_kif, kOps_kif, kO_kif, kG_kif, kDrw_kif, kW_kif, kOpsW_kif, kRet_kif, map_kif, bind_kif, kWant_t, kWant_f, kWant_kif, ↓execI_pick, kPick_bool, kPick_kif, ↓execI_iadr, kIadr_sl, ↓execI_idxs, kIdxs_str, ↓execI_len, ↓rdB_ld, kRd_ptr, kRd_tptr, kRd_tup, kRd_kif, kOpsW_bs, gt0, st0, gt1, st1, gt2, st2, gt3, st3, gt4, st4, gt5, st5, gt6, st6, gt7, st7, gt8, st8, -kWant_bool, -Int.not_le, -Int.not_lt, -decide_eq_true_eq, -decide_eq_false_iff_not, -List.getD_eq_getElem?_getD, -List.set_cons_succ, -List.set_cons_zero, -Bool.and_eq_true, -Bool.or_eq_true, -Bool.not_eq_eq_eq_not, -Bool.or_eq_false_iff, -Bool.and_eq_false_imp, -Bool.not_eq_true, -Bool.not_eq_false]
    unfold SPp; omega
end Go.AM.Ytegibclhopenmaa

set_option linter.unusedVariables false
set_option linter.unusedSimpArgs false
namespace Go.AM.Ytegibclhopenmaa
open Go Go.AM
set_option maxRecDepth 100000
set_option maxHeartbeats 0
attribute [local congr] kif_congr
def T18 (b : Int) (n : Nat) (x : Int) (to : V) (j : Nat) (d : Bool) : St := ⟨[.undef, .undef, .int .i64 b, .undef, .undef, .undef, .undef, .int .i64 n, .int .i64 x, to, .int .i64 j, .undef, .undef, .undef, .undef, .undef, .undef, .undef, .undef, .undef, .undef, .undef, .undef, .undef, .undef, .undef, .undef, .undef, .undef, .undef, .undef, .undef, .undef, .undef, .undef, .undef, .undef, .undef, .undef, .undef, .undef, .undef, .undef, .undef, .undef, .undef, .undef, .undef, .undef, .undef, .undef, .undef, .undef, .undef, .undef, .undef, .undef, .undef, .undef, .undef], [], d⟩
def I18 (b : Int) (to : V) (j : Nat) (t : St) : Prop := ∃ x d, (0 < cnt to b j → 0 ≤ x) ∧ cnt to b j ≤ j ∧ t = T18 b (cnt to b j) x to j d
theorem g18 (call : CallT) (K : Nat) (b : Int) (to : V) (hto : S85 [to]) (j : Nat) (hj : j < lenV to) (t : St) (ht : I18 b to j t) : Go1 (tidy [2, 7, 8, 9, 10] 0) (I18 b to (j + 1)) (fun _ => False) (execC call pu 0 K c18_b0 t) := by
  obtain ⟨x, d, hc, hle, rfl⟩ := ht
  have hL := len85 hto
  simp only [LMAX] at hL
  have gt := LS85 hto
  have h1 : IntKind.i64.wrap ((j : Int) + 1) = (j : Int) + 1 := wrap64 (by omega) (by omega)
  have h2 : IntKind.i64.wrap ((cnt to b j : Int) + 1) = (cnt to b j : Int) + 1 := wrap64 (by omega) (by omega)
  have h3 : decide (lenV to ≤ j) = false := by simp; omega
  have h4 : decide (j < lenV to) = true := by simp; omega
  obtain ⟨hrow, -, ha⟩ := e85 hto hj
  have gA := LS22 ha
  by_cases hx : ic to j 0 = b
  · have h5 : decide (ic to j 0 = b) = true := by simp [hx]
    have fin : I18 b to (j + 1) (T18 b (cnt to b j + 1) j to (j + 1) d) := ⟨j, d, fun _ => by omega, by simp [cnt, hx]; omega, by simp [cnt, hx]⟩
    generalize I18 b to (j + 1) = II at fin ⊢
    simp only [T18, Int.natCast_add, Int.natCast_one] at fin
    unfold c18_b0 T18
    simp (contextual := true) (maxSteps := 10000000) (implicitDefEqProofs := false) [h1, h2, h3, h4, h5, hrow, gt.all, gA.all, kIadr_LS gt, freezeH, fin, Go1_kif, Go1_ret, Go1_normal, Go1_exit, RtF_ret, ex_eq, ex_eq2, tidy, kCond_kc, kc_kif, ↓kif_tr, ↓kif_fl, kif_tr, kif_fl, kif_same, ↓kif_not, ↓kif_or, ↓kifg_tr, ↓kifg_fl, ↓kifg_not, ↓kifg_or, ↓kifg_and, kifg_kif, kifB_t, kifB_f, kifB_ft, kifB_tt, kif_bool, kif_int, mergeL, mergeV, mergeS, mergeRs, kSeq_kif, kBlk_kif, kPost_kif, kNext_kif, kFin_kif, kReg_kif, kOps_kif, kO_kif, kG_kif, kDrw_kif, kW_kif, kOpsW_kif, kRet_kif, map_kif, bind_kif, kWant_t, kWant_f, kWant_kif, ↓execI_pick, kPick_bool, kPick_kif, ↓execI_iadr, kIadr_sl, ↓execI_idxs, kIdxs_str, ↓execI_len, ↓rdB_ld, kRd_ptr, kRd_tptr, kRd_tup, kRd_kif, kOpsW_bs, gt0, st0, gt1, st1, gt2, st2, gt3, st3, gt4, st4, gt5, st5, gt6, st6, gt7, st7, gt8, st8, -kWant_bool, -Int.not_le, -Int.not_lt, -decide_eq_true_eq, -decide_eq_false_iff_not, -List.getD_eq_getElem?_getD, -List.set_cons_succ, -List.set_cons_zero, -Bool.and_eq_true, -Bool.or_eq_true, -Bool.not_eq_eq_eq_not, -Bool.or_eq_false_iff, -Bool.and_eq_false_imp, -Bool.not_eq_true, -Bool.not_eq_false]
  · have h5 : decide (ic to j 0 = b) = false := by simp [hx]
    have fin : I18 b to (j + 1) (T18 b (cnt to b j) x to (j + 1) d) := ⟨x, d, by simpa [cnt, hx] using hc, by simp [cnt, hx]; omega, by simp [cnt, hx]⟩
    generalize I18 b to (j + 1) = II at fin ⊢
    simp only [T18, Int.natCast_add, Int.natCast_one] at fin
    unfold c18_b0 T18
    simp (contextual := true) (maxSteps := 10000000) (implicitDefEqProofs := false) [h1, h3, h4, h5, hrow, gt.all, gA.all, kIadr_LS gt, freezeH, fin, Go1_kif, Go1_ret, Go1_normal, Go1_exit, RtF_ret, ex_eq, ex_eq2, tidy, kCond_kc, kc_kif, ↓kif_tr, ↓kif_fl, kif_tr, kif_fl, kif_same, ↓kif_not, ↓kif_or, ↓kifg_tr, ↓kifg_fl, ↓kifg_not, ↓kifg_or, ↓kifg_and, kifg_kif, kifB_t, kifB_f, kifB_ft, kifB_tt, kif_bool, kif_int, mergeL, mergeV, mergeS, mergeRs, kSeq_kif, kBlk_kif, kPost_kif, kNext_kif, kFin_kif, kReg_kif, kOps_kif, kO_kif, kG_kif, kDrw_kif, kW_kif, kOpsW_kif, kRet_kif, map_kif, bind_kif, kWant_t, kWant_f, kWant_kif, ↓execI_pick, kPick_bool, kPick_kif, ↓execI_iadr, kIadr_sl, ↓execI_idxs, kIdxs_str, ↓execI_len, ↓rdB_ld, kRd_ptr, kRd_tptr, kRd_tup, kRd_kif, kOpsW_bs, gt0, st0, gt1, st1, gt2, st2, gt3, st3, gt4, st4, gt5, st5, gt6, st6, gt7, st7, gt8, st8, -kWant_bool, -Int.not_le, -Int.not_lt, -decide_eq_true_eq, -decide_eq_false_iff_not, -List.getD_eq_getElem?_getD, -List.set_cons_succ, -List.set_cons_zero, -Bool.and_eq_true, -Bool.or_eq_true, -Bool.not_eq_eq_eq_not, -Bool.or_eq_false_iff, -Bool.and_eq_false_imp, -Bool.not_eq_true, -Bool.not_eq_false]
theorem x18 (call : CallT) (K : Nat) (b : Int) (to : V) (hto : S85 [to]) (t : St) (ht : I18 b to (lenV to) t) : Nn (execC call pu 0 K c18_b0 t) := by
  obtain ⟨x, d, hc, hle, rfl⟩ := ht
  have gt := LS85 hto
  unfold c18_b0 T18
  simp (contextual := true) (maxSteps := 10000000) (implicitDefEqProofs := false) [gt.all, Nn_exit, kCond_kc, kc_kif, ↓kif_tr, ↓kif_fl, kif_tr, kif_fl, kif_same, ↓kif_not, ↓kif_or, ↓kifg_tr, ↓kifg_fl, ↓kifg_not, ↓kifg_or, ↓kifg_and, kifg_kif, kifB_t, kifB_f, kifB_ft, kifB_tt, kif_bool, kif_int, mergeL, mergeV, mergeS, mergeRs, kSeq_kif, kBlk_kif, kPost_kif, kNext_kif, kFin_kif, kReg_kif, kOps_kif, kO_kif, kG_kif, kDrw_kif, kW_kif, kOpsW_kif, kRet_kif, map_kif, bind_kif, kWant_t, kWant_f, kWant_kif, ↓execI_pick, kPick_bool, kPick_kif, ↓execI_iadr, kIadr_sl, ↓execI_idxs, kIdxs_str, ↓execI_len, ↓rdB_ld, kRd_ptr, kRd_tptr, kRd_tup, kRd_kif, kOpsW_bs, gt0, st0, gt1, st1, gt2, st2, gt3, st3, gt4, st4, gt5, st5, gt6, st6, gt7, st7, gt8, st8, -kWant_bool, -Int.not_le, -Int.not_lt, -decide_eq_true_eq, -decide_eq_false_iff_not, -List.getD_eq_getElem?_getD, -List.set_cons_succ, -List.set_cons_zero, -Bool.and_eq_true, -Bool.or_eq_true, -Bool.not_eq_eq_eq_not, -Bool.or_eq_false_iff, -Bool.and_eq_false_imp, -Bool.not_eq_true, -Bool.not_eq_false]
theorem tot18 (K : Nat) (hK : BIG ≤ K) (nm : ByteArray) (w ar st rt bl : V) (h : OkF nm w ar st rt bl) (sc : V) (hs : S28 [sc]) (b : Int) : RtI .i64 (fun n => 0 ≤ n ↔ SPp bl sc b) (callF tbl pu (K + 1) 18 [.agg [.str nm, w, ar, st, rt, bl], sc, .int .i64 b] []) := by
  rw [callF_eq tbl18, c18]
  have gw := LS22 h.w
  have ga := LS23 h.ar
  have gs := LS24 h.st
  have gr := LS22 h.rt
  have gb := LS25 h.bl
  have gc := LS28 hs
  by_cases c1 : b < 0
  · have h1 : decide (b < 0) = true := by simp; omega
    simp (contextual := true) (maxSteps := 10000000) (implicitDefEqProofs := false) [h1, gw.all, ga.all, gs.all, gr.all, gb.all, gc.all, RtI_some, kCond_kc, kc_kif, ↓kif_tr, ↓kif_fl, kif_tr, kif_fl, kif_same, ↓kif_not, ↓kif_or, ↓kifg_tr, ↓kifg_fl, ↓kifg_not, ↓kifg_or, ↓kifg_and, kifg_kif, kifB_t, kifB_f, kifB_ft, kifB_tt, kif_bool, kif_int, mergeL, mergeV, mergeS, mergeRs, kSeq_kif, kBlk_kif, kPost_kif, kNext_kif, kFin_kif, kReg_kif, kOps_kif, kO_kif, kG_kif, kDrw_kif, kW_kif, kOpsW_kif, kRet_kif, map_kif, bind_kif, kWant_t, kWant_f, kWant_kif, ↓execI_pick, kPick_bool, kPick_kif, ↓execI_iadr, kIadr_sl, ↓execI_idxs, kIdxs_str, ↓execI_len, ↓rdB_ld, kRd_ptr, kRd_tptr, kRd_tup, kRd_kif, kOpsW_bs, gt0, st0, gt1, st1, gt2, st2, gt3, st3, gt4, st4, gt5, st5, gt6, st6, gt7, st7, gt8, st8, -kWant_bool, -Int.not_le, -Int.not_lt, -decide_eq_true_eq, -decide_eq_false_iff_not, -List.getD_eq_getElem?_getD, -List.set_cons_succ, -List.set_cons_zero, -Bool.and_eq_true, -Bool.or_eq_true, -Bool.not_eq_eq_eq_not, -Bool.or_eq_false_iff, -Bool.and_eq_false_imp, -Bool.not_eq_true, -Bool.not_eq_false]
    unfold SPp; omega
  have h1 : decide (b < 0) = false := by simp; omega
  by_cases c2 : (lenV bl : Int) ≤ b
  · have h2 : decide ((lenV bl : Int) ≤ b) = true := by simp; omega
    simp (contextual := true) (maxSteps := 10000000) (implicitDefEqProofs := false) [h1, h2, gw.all, ga.all, gs.all, gr.all, gb.all, gc.all, RtI_some, kCond_kc, kc_kif, ↓kif_tr, ↓kif_fl, kif_tr, kif_fl, kif_same, ↓kif_not, ↓kif_or, ↓kifg_tr, ↓kifg_fl, ↓kifg_not, ↓kifg_or, ↓kifg_and, kifg_kif, kifB_t, kifB_f, kifB_ft, kifB_tt, kif_bool, kif_int, mergeL, mergeV, mergeS, mergeRs, kSeq_kif, kBlk_kif, kPost_kif, kNext_kif, kFin_kif, kReg_kif, kOps_kif, kO_kif, kG_kif, kDrw_kif, kW_kif, kOpsW_kif, kRet_kif, map_kif, bind_kif, kWant_t, kWant_f, kWant_kif, ↓execI_pick, kPick_bool, kPick_kif, ↓execI_iadr, kIadr_sl, ↓execI_idxs, kIdxs_str, ↓execI_len, ↓rdB_ld, kRd_ptr, kRd_tptr, kRd_tup, kRd_kif, kOpsW_bs, gt0, st0, gt1, st1, gt2, st2, gt3, st3, gt4, st4, gt5, st5, gt6, st6, gt7, st7, gt8, st8, -kWant_bool, -Int.not_le, -Int.not_lt, -decide_eq_true_eq, -decide_eq_false_iff_not, -List.getD_eq_getElem?_getD, -List.set_cons_succ, -List.set_cons_zero, -Bool.and_eq_true, -Bool.or_eq_true, -Bool.not_eq_eq_eq_not, -Bool.or_eq_false_iff, -Bool.and_eq_false_imp, -Bool.not_eq_true, -Bool.not_eq_false]
    unfold SPp; omega
  have h2 : decide ((lenV bl : Int) ≤ b) = false := by simp; omega
  by_cases c3 : (lenV sc : Int) ≤ b
  · have h3 : decide ((lenV sc : Int) ≤ b) = true := by simp; omega
    simp (contextual := true) (maxSteps := 10000000) (implicitDefEqProofs := false) [h1, h2, h3, gw.all, ga.all, gs.all, gr.all, gb.all, gc.all, RtI_some, kCond_kc, kc_kif, ↓kif_tr, ↓kif_fl, kif_tr, kif_fl, kif_same, ↓kif_not, ↓kif_or, ↓kifg_tr, ↓kifg_fl, ↓kifg_not, ↓kifg_or, ↓kifg_and, kifg_kif, kifB_t, kifB_f, kifB_ft, kifB_tt, kif_bool, kif_int, mergeL, mergeV, mergeS, mergeRs, kSeq_kif, kBlk_kif, kPost_kif, kNext_kif, kFin_kif, kReg_kif, kOps_kif, kO_kif, kG_kif, kDrw_kif, kW_kif, kOpsW_kif, kRet_kif, map_kif, bind_kif, kWant_t, kWant_f, kWant_kif, ↓execI_pick, kPick_bool, kPick_kif, ↓execI_iadr, kIadr_sl, ↓execI_idxs, kIdxs_str, ↓execI_len, ↓rdB_ld, kRd_ptr, kRd_tptr, kRd_tup, kRd_kif, kOpsW_bs, gt0, st0, gt1, st1, gt2, st2, gt3, st3, gt4, st4, gt5, st5, gt6, st6, gt7, st7, gt8, st8, -kWant_bool, -Int.not_le, -Int.not_lt, -decide_eq_true_eq, -decide_eq_false_iff_not, -List.getD_eq_getElem?_getD, -List.set_cons_succ, -List.set_cons_zero, -Bool.and_eq_true, -Bool.or_eq_true, -Bool.not_eq_eq_eq_not, -Bool.or_eq_false_iff, -Bool.and_eq_false_imp, -Bool.not_eq_true, -Bool.not_eq_false]
    unfold SPp; omega
  have h3 : decide ((lenV sc : Int) ≤ b) = false := by simp; omega
  have hr := sc_row hs h1 h3
  by_cases c4 : ic sc b.toNat 0 ≤ 0
  · have h4 : decide (ic sc b.toNat 0 ≤ 0) = true := by simp; omega
    simp (contextual := true) (maxSteps := 10000000) (implicitDefEqProofs := false) [h1, h2, h3, h4, hr, gw.all, ga.all, gs.all, gr.all, gb.all, gc.all, kIadr_LS gc, RtI_some, kCond_kc, kc_kif, ↓kif_tr, ↓kif_fl, kif_tr, kif_fl, kif_same, ↓kif_not, ↓kif_or, ↓kifg_tr, ↓kifg_fl, ↓kifg_not, ↓kifg_or, ↓kifg_and, kifg_kif, kifB_t, kifB_f, kifB_ft, kifB_tt, kif_bool, kif_int, mergeL, mergeV, mergeS, mergeRs, kSeq_kif, kBlk_kif, kPost_kif, kNext_kif, kFin_kif, kReg_kif, kOps_kif, kO_kif, kG_kif, kDrw_kif, kW_kif, kOpsW_kif, kRet_kif, map_kif, bind_kif, kWant_t, kWant_f, kWant_kif, ↓execI_pick, kPick_bool, kPick_kif, ↓execI_iadr, kIadr_sl, ↓execI_idxs, kIdxs_str, ↓execI_len, ↓rdB_ld, kRd_ptr, kRd_tptr, kRd_tup, kRd_kif, kOpsW_bs, gt0, st0, gt1, st1, gt2, st2, gt3, st3, gt4, st4, gt5, st5, gt6, st6, gt7, st7, gt8, st8, -kWant_bool, -Int.not_le, -Int.not_lt, -decide_eq_true_eq, -decide_eq_false_iff_not, -List.getD_eq_getElem?_getD, -List.set_cons_succ, -List.set_cons_zero, -Bool.and_eq_true, -Bool.or_eq_true, -Bool.not_eq_eq_eq_not, -Bool.or_eq_false_iff, -Bool.and_eq_false_imp, -Bool.not_eq_true, -Bool.not_eq_false]
    unfold SPp; omega
  have h4 : decide (ic sc b.toNat 0 ≤ 0) = false := by simp; omega
  obtain ⟨hrow, -, -, -, -, hto, -⟩ := e25 h.bl (i := b.toNat) (by omega)
  have gt := LS85 hto
  have M1 : lenV (cel bl b.toNat 4) < K := big_lt (len85 hto) hK
  rcases loop_go (t0 := T18 b 0 (-1) (cel bl b.toNat 4) 0 false) (pre := tidy [2, 7, 8, 9, 10] 0) (fun j t hj ht => g18 (callF tbl pu K) K b _ hto j hj t ht) (fun t ht => x18 (callF tbl pu K) K b _ hto t ht) ⟨_, _, fun hh => by simp [cnt] at hh, Nat.le_refl _, rfl⟩ with ⟨t, ⟨x, d, hc, -, rfl⟩, hl⟩ | ⟨r, hr', hl⟩
  case inr => exact hr'.elim
  generalize hcc : cnt (cel bl b.toNat 4) b (lenV (cel bl b.toNat 4)) = cc at *
  by_cases c5 : cc = 1
  · have h5 : decide ((cc : Int) = 1) = true := by simp; omega
    simp (contextual := true) (maxSteps := 10000000) (implicitDefEqProofs := false) [h1, h2, h3, h4, hr, hrow, gw.all, ga.all, gs.all, gr.all, gb.all, gt.all, gc.all, kIadr_LS gb, kIadr_LS gc, execC_loop, -kIter_succ, kCond_kc, kc_kif, ↓kif_tr, ↓kif_fl, kif_tr, kif_fl, kif_same, ↓kif_not, ↓kif_or, ↓kifg_tr, ↓kifg_fl, ↓kifg_not, ↓kifg_or, ↓kifg_and, kifg_kif, kifB_t, kifB_f, kifB_ft, kifB_tt, kif_bool, kif_int, mergeL, mergeV, mergeS, mergeRs, kSeq_kif, kBlk_kif, kPost_kif, kNext_kif, kFin_kif, kReg_kif, kOps_kif, kO_kif, kG_kif, kDrw_kif, kW_kif, kOpsW_kif, kRet_kif, map_kif, bind_kif, kWant_t, kWant_f, kWant_kif, ↓execI_pick, kPick_bool, kPick_kif, ↓execI_iadr, kIadr_sl, ↓execI_idxs, kIdxs_str, ↓execI_len, ↓rdB_ld, kRd_ptr, kRd_tptr, kRd_tup, kRd_kif, kOpsW_bs, gt0, st0, gt1, st1, gt2, st2, gt3, st3, gt4, st4, gt5, st5, gt6, st6, gt7, st7, gt8, st8, -kWant_bool, -Int.not_le, -Int.not_lt, -decide_eq_true_eq, -decide_eq_false_iff_not, -List.getD_eq_getElem?_getD, -List.set_cons_succ, -List.set_cons_zero, -Bool.and_eq_true, -Bool.or_eq_true, -Bool.not_eq_eq_eq_not, -Bool.or_eq_false_iff, -Bool.and_eq_false_imp, -Bool.not_eq_true, -Bool.not_eq_false]
    rw [hl _ _ M1 (by simp (contextual := true) (maxSteps := 10000000) (implicitDefEqProofs := false) [T18, tidy, gt.all, kCond_kc, kc_kif, ↓kif_tr, ↓kif_fl, kif_tr, kif_fl, kif_same, ↓kif_not, ↓kif_or, ↓kifg_tr, ↓kifg_fl, ↓kifg_not, ↓kifg_or, ↓kifg_and, kifg_kif, kifB_t, kifB_f, kifB_ft, kifB_tt, kif_bool, kif_int, mergeL, mergeV, mergeS, mergeRs, kSeq_kif, kBlk_kif, kPost_kif, kNext_kif, kFin_kif, kReg_kif, kOps_kif, kO_kif, kG_kif, kDrw_kif, kW_kif, kOpsW_kif, kRet_kif, map_kif, bind_kif, kWant_t, kWant_f, kWant_kif, ↓execI_pick, kPick_bool, kPick_kif, ↓execI_iadr, kIadr_sl, ↓execI_idxs, kIdxs_str, ↓execI_len, ↓rdB_ld, kRd_ptr, kRd_tptr, kRd_tup, kRd_kif, kOpsW_bs, gt0, st0, gt1, st1, gt2, st2, gt3, st3, gt4, st4, gt5, st5, gt6, st6, gt7, st7, gt8, st8, -kWant_bool, -Int.not_le, -Int.not_lt, -decide_eq_true_eq, -decide_eq_false_iff_not, -List.getD_eq_getElem?_getD, -List.set_cons_succ, -List.set_cons_zero, -Bool.and_eq_true, -Bool.or_eq_true, -Bool.not_eq_eq_eq_not, -Bool.or_eq_false_iff, -Bool.and_eq_false_imp, -Bool.not_eq_true, -Bool.not_eq_false])]
    simp (contextual := true) (maxSteps := 10000000) (implicitDefEqProofs := false) [T18, c18_b0, h5, c5, gt.all, RtI_some, kCond_kc, kc_kif, ↓kif_tr, ↓kif_fl, kif_tr, kif_fl, kif_same, ↓kif_not, ↓kif_or, ↓kifg_tr, ↓kifg_fl, ↓kifg_not, ↓kifg_or, ↓kifg_and, kifg_kif, kifB_t, kifB_f, kifB_ft, kifB_tt, kif_bool, kif_int, mergeL, mergeV, mergeS, mergeRs, kSeq_kif, kBlk_kif, kPost_kif, kNext_kif, kFin_kif, kReg_kif, kOps_kif, kO_kif, kG_kif, kDrw_kif, kW_kif, kOpsW_kif, kRet_kif, map_kif, bind_kif, kWant_t, kWant_f, kWant_kif, ↓execI_pick, kPick_bool, kPick_kif, ↓execI_iadr, kIadr_sl, ↓execI_idxs, kIdxs_str, ↓execI_len, ↓rdB_ld, kRd_ptr, kRd_tptr, kRd_tup, kRd_kif, kOpsW_bs, gt0, st0, gt1, st1, gt2, st2, gt3, st3, gt4, st4, gt5, st5, gt6, st6, gt7, st7, gt8, st8, -kWant_bool, -Int.not_le, -Int.not_lt, -decide_eq_true_eq, -decide_eq_false_iff_not, -List.getD_eq_getElem?_getD, -List.set_cons_succ, -List.set_cons_zero, -Bool.and_eq_true, -Bool.or_eq_true, -Bool.not_eq_eq_eq_not, -Bool.or_eq_false_iff, -Bool.and_eq_false_imp, -Bool.not_eq_true, -Bool.not_eq_false]
    unfold SPp; rw [hcc]; omega
  · have h5 : decide ((cc : Int) = 1) = false := by simp; omega
    simp (contextual := true) (maxSteps := 10000000) (implicitDefEqProofs := false) [h1, h2, h3, h4, hr, hrow, gw.all, ga.all, gs.all, gr.all, gb.all, gt.all, gc.all, kIadr_LS gb, kIadr_LS gc, execC_loop, -kIter_succ, kCond_kc, kc_kif, ↓kif_tr, ↓kif_fl, kif_tr, kif_fl, kif_same, ↓kif_not, ↓kif_or, ↓kifg_tr, ↓kifg_fl, ↓kifg_not, ↓kifg_or, ↓kifg_and, kifg_kif, kifB_t, kifB_f, kifB_ft, kifB_tt, kif_bool, kif_int, mergeL, mergeV, mergeS, mergeRs, kSeq_kif, kBlk_kif, kPost_kif, kNext_kif, kFin_kif, kReg_kif, kOps_kif, kO_kif, kG_kif, kDrw_kif, kW_kif, kOpsW_kif, kRet_kif, map_kif, bind_kif, kWant_t, kWant_f, kWant_kif, ↓execI_pick, kPick_bool, kPick_kif, ↓execI_iadr, kIadr_sl, ↓execI_idxs, kIdxs_str, ↓execI_len, ↓rdB_ld, kRd_ptr, kRd_tptr, kRd_tup, kRd_kif, kOpsW_bs, gt0, st0, gt1, st1, gt2, st2, gt3, st3, gt4, st4, gt5, st5, gt6, st6, gt7, st7, gt8, st8, -kWant_bool, -Int.not_le, -Int.not_lt, -decide_eq_true_eq, -decide_eq_false_iff_not, -List.getD_eq_getElem?_getD, -List.set_cons_succ, -List.set_cons_zero, -Bool.and_eq_true, -Bool.or_eq_true, -Bool.not_eq_eq_eq_not, -Bool.or_eq_false_iff, -Bool.and_eq_false_imp, -Bool.not_eq_true, -Bool.not_eq_false]
    rw [hl _ _ M1 (by simp (contextual := true) (maxSteps := 10000000) (implicitDefEqProofs := false) [T18, tidy, gt.all, kCond_kc, kc_kif, ↓kif_tr, ↓kif_fl, kif_tr, kif_fl, kif_same, ↓kif_not, ↓kif_or, ↓kifg_tr, ↓kifg_fl, ↓kifg_not, ↓kifg_or, ↓kifg_and, kifg_kif, kifB_t, kifB_f, kifB_ft, kifB_tt, kif_bool, kif_int, mergeL, mergeV, mergeS, mergeRs, kSeq_kif, kBlk_kif, kPost_kif, kNext_kif, kFin_kif, kReg_kif, kOps_kif, kO_kif, kG_kif, kDrw_kif, kW_kif, kOpsW_kif, kRet_kif, map_kif, bind_kif, kWant_t, kWant_f, kWant_kif, ↓execI_pick, kPick_bool, kPick_kif, ↓execI_iadr, kIadr_sl, ↓execI_idxs, kIdxs_str, ↓execI_len, ↓rdB_ld, kRd_ptr, kRd_tptr, kRd_tup, kRd_kif, kOpsW_bs, gt0, st0, gt1, st1, gt2, st2, gt3, st3, gt4, st4, gt5, st5, gt6, st6, gt7, st7, gt8, st8, -kWant_bool, -Int.not_le, -Int.not_lt, -decide_eq_true_eq, -decide_eq_false_iff_not, -List.getD_eq_getElem?_getD, -List.set_cons_succ, -List.set_cons_zero, -Bool.and_eq_true, -Bool.or_eq_true, -Bool.not_eq_eq_eq_not, -Bool.or_eq_false_iff, -Bool.and_eq_false_imp, -Bool.not_eq_true, -Bool.not_eq_false])]
    simp (contextual := true) (maxSteps := 10000000) (implicitDefEqProofs := false) [T18, c18_b0, h5, gt.all, RtI_some, kCond_kc, kc_kif, ↓kif_tr, ↓kif_fl, kif_tr, kif_fl, kif_same, ↓kif_not, ↓kif_or, ↓kifg_tr, ↓kifg_fl, ↓kifg_not, ↓kifg_or, ↓kifg_and, kifg_kif, kifB_t, kifB_f, kifB_ft, kifB_tt, kif_bool, kif_int, mergeL, mergeV, mergeS, mergeRs, kSeq_kif, kBlk_kif, kPost_kif, kNext_kif, kFin_kif, kReg_kif, kOps_kif, kO_kif, kG_kif, kDrw_kif, kW_kif, kOpsW_kif, kRet_kif, map_kif, bind_kif, kWant_t, kWant_f, kWant_kif, ↓execI_pick, kPick_bool, kPick_kif, ↓execI_iadr, kIadr_sl, ↓execI_idxs, kIdxs_str, ↓execI_len, ↓rdB_ld, kRd_ptr, kRd_tptr, kRd_tup, kRd_kif, kOpsW_bs, gt0, st0, gt1, st1, gt2, st2, gt3, st3, gt4, st4, gt5, st5, gt6, st6, gt7, st7, gt8, st8, -kWant_bool, -Int.not_le, -Int.not_lt, -decide_eq_true_eq, -decide_eq_false_iff_not, -List.getD_eq_getElem?_getD, -List.set_cons_succ, -List.set_cons_zero, -Bool.and_eq_true, -Bool.or_eq_true, -Bool.not_eq_eq_eq_not, -Bool.or_eq_false_iff, -Bool.and_eq_false_imp, -Bool.not_eq_true, -Bool.not_eq_false]
    unfold SPp; rw [hcc]; omega
/-! awake -/
theorem awakeK (k : Nat) : callF tbl pu (k + 40) 6 [] [] = some (.bool true, [], false) := by kernel_rfl
/-! few -/
def okS (sc : V) (j : Nat) : Prop := 0 ≤ ic sc j 0 ∧ ic sc j 0 ≤ 1000 ∧ 0 ≤ ic sc j 1 ∧ ic sc j 1 ≤ 1000
def bxW (nm : ByteArray) (w ar st rt bl sc pa : V) : Blk := ⟨8, [[.str nm, w, ar, st, rt, bl, sc, pa]], 0, true, w.flat && (ar.flat && (st.flat && (rt.flat && (bl.flat && (sc.flat && pa.flat)))))⟩
def T7 (nm : ByteArray) (w ar st rt bl sc pa : V) (j : Nat) : St := ⟨[.undef, .ptr 0 1 0 0, .undef, .undef, .undef, .undef, .int .i64 (lenV sc), .int .i64 j, .undef, .undef, .undef, .undef, .undef, .undef, .undef, .undef, .undef, .undef, .undef, .undef, .undef, .undef, .undef, .undef, .undef, .undef, .undef, .undef, .undef, .undef, .undef, .undef, .undef, .undef, .undef, .undef, .undef, .undef, .undef, .undef, .undef, .undef, .undef, .undef, .undef, .undef, .undef, .undef, .undef, .undef, .undef, .undef, .undef, .undef, .undef, .undef, .undef, .undef, .undef, .undef, .undef, .undef, .undef, .undef, .undef, .undef, .undef, .undef, .undef, .undef, .undef, .undef, .undef, .undef], [bxW nm w ar st rt bl sc pa], false⟩
theorem g7 (call : CallT) (K : Nat) (nm : ByteArray) (w ar st rt bl : V) (h : OkF nm w ar st rt bl) (sc pa : V) (hs : S28 [sc]) (hp : S22 [pa]) (j : Nat) (hj : j < lenV sc) : Go1 (tidy [1, 6, 7] 0) (fun t => t = T7 nm w ar st rt bl sc pa (j + 1) ∧ okS sc j) (RtF 2) (execC call pu 0 K c7_b0 (T7 nm w ar st rt bl sc pa j)) := by
  have gw := LS22 h.w
  have ga := LS23 h.ar
  have gs := LS24 h.st
  have gr := LS22 h.rt
  have gb := LS25 h.bl
  have hL := len28 hs
  simp only [LMAX] at hL
  have gc := LS28 hs
  have gp := LS22 hp
  have h1 : IntKind.i64.wrap ((j : Int) + 1) = (j : Int) + 1 := wrap64 (by omega) (by omega)
  have h3 : decide (lenV sc ≤ j) = false := by simp; omega
  have h4 : decide (j < lenV sc) = true := by simp; omega
  obtain ⟨hrow, -⟩ := e28 hs hj
  unfold c7_b0 T7 bxW okS
  simp (contextual := true) (maxSteps := 10000000) (implicitDefEqProofs := false) [h1, h3, h4, hrow, gw.all, ga.all, gs.all, gr.all, gb.all, gc.all, gp.all, kIadr_LS gc, Go1_kif, Go1_ret, Go1_normal, Go1_exit, RtF_ret, ex_eq, ex_eq2, tidy, kCond_kc, kc_kif, ↓kif_tr, ↓kif_fl, kif_tr, kif_fl, kif_same, ↓kif_not, ↓kif_or, ↓kifg_tr, ↓kifg_fl, ↓kifg_not, ↓kifg_or, ↓kifg_and, kifg_kif, kifB_t, kifB_f, kifB_ft, kifB_tt, kif_bool, kif_int, mergeL, mergeV, mergeS, mergeRs, kSeq_kif, kBlk_kif, kPost_kif, kNext_kif, kFin_kif, kReg_kif, kOps_kif, kO_kif, kG_kif, kDrw_kif, kW_kif, kOpsW_kif, kRet_kif, map_kif, bind_kif, kWant_t, kWant_f, kWant_kif, ↓execI_pick, kPick_bool, kPick_kif, ↓execI_iadr, kIadr_sl, ↓execI_idxs, kIdxs_str, ↓execI_len, ↓rdB_ld, kRd_ptr, kRd_tptr, kRd_tup, kRd_kif, kOpsW_bs, gt0, st0, gt1, st1, gt2, st2, gt3, st3, gt4, st4, gt5, st5, gt6, st6, gt7, st7, gt8, st8, -kWant_bool, -Int.not_le, -Int.not_lt, -decide_eq_true_eq, -decide_eq_false_iff_not, -List.getD_eq_getElem?_getD, -List.set_cons_succ, -List.set_cons_zero, -Bool.and_eq_true, -Bool.or_eq_true, -Bool.not_eq_eq_eq_not, -Bool.or_eq_false_iff, -Bool.and_eq_false_imp, -Bool.not_eq_true, -Bool.not_eq_false]
  intro a b c d
  simp at a b c d
  omega
theorem x7 (call : CallT) (K : Nat) (nm : ByteArray) (w ar st rt bl : V) (h : OkF nm w ar st rt bl) (sc pa : V) : Nn (execC call pu 0 K c7_b0 (T7 nm w ar st rt bl sc pa (lenV sc))) := by
  unfold c7_b0 T7
  simp (contextual := true) (maxSteps := 10000000) (implicitDefEqProofs := false) [Nn_exit, kCond_kc, kc_kif, ↓kif_tr, ↓kif_fl, kif_tr, kif_fl, kif_same, ↓kif_not, ↓kif_or, ↓kifg_tr, ↓kifg_fl, ↓kifg_not, ↓kifg_or, ↓kifg_and, kifg_kif, kifB_t, kifB_f, kifB_ft, kifB_tt, kif_bool, kif_int, mergeL, mergeV, mergeS, mergeRs, kSeq_kif, kBlk_kif, kPost_kif, kNext_kif, kFin_kif, kReg_kif, kOps_kif, kO_kif, kG_kif, kDrw_kif, kW_kif, kOpsW_kif, kRet_kif, map_kif, bind_kif, kWant_t, kWant_f, kWant_kif, ↓execI_pick, kPick_bool, kPick_kif, ↓execI_iadr, kIadr_sl, ↓execI_idxs, kIdxs_str, ↓execI_len, ↓rdB_ld, kRd_ptr, kRd_tptr, kRd_tup, kRd_kif, kOpsW_bs, gt0, st0, gt1, st1, gt2, st2, gt3, st3, gt4, st4, gt5, st5, gt6, st6, gt7, st7, gt8, st8, -kWant_bool, -Int.not_le, -Int.not_lt, -decide_eq_true_eq, -decide_eq_false_iff_not, -List.getD_eq_getElem?_getD, -List.set_cons_succ, -List.set_cons_zero, -Bool.and_eq_true, -Bool.or_eq_true, -Bool.not_eq_eq_eq_not, -Bool.or_eq_false_iff, -Bool.and_eq_false_imp, -Bool.not_eq_true, -Bool.not_eq_false]
theorem tot7 (K : Nat) (hK : BIG ≤ K) (nm : ByteArray) (w ar st rt bl : V) (h : OkF nm w ar st rt bl) (sc pa : V) (hs : S28 [sc]) (hp : S22 [pa]) : RtW ((∀ j, j < lenV sc → okS sc j) ∧ lenV pa ≤ 60) (callF tbl pu (K + 7) 7 [.agg [.str nm, w, ar, st, rt, bl, sc, pa]] []) := by
  rw [callF_eq tbl7, c7]
  have gw := LS22 h.w
  have ga := LS23 h.ar
  have gs := LS24 h.st
  have gr := LS22 h.rt
  have gb := LS25 h.bl
  have gc := LS28 hs
  have gp := LS22 hp
  have M1 : lenV sc < K + 6 := big_lt (len28 hs) (big_add 6 hK)
  have q16 := eq16 K hK nm w ar st rt bl h
  rcases loop_ok (fun j hj => g7 (callF tbl pu (K + 6)) (K + 6) nm w ar st rt bl h sc pa hs hp j hj) (x7 (callF tbl pu (K + 6)) (K + 6) nm w ar st rt bl h sc pa) with ⟨h0, hl⟩ | ⟨r, hr, hl⟩
  · simp (contextual := true) (maxSteps := 10000000) (implicitDefEqProofs := false) [gw.all, ga.all, gs.all, gr.all, gb.all, gc.all, gp.all, execC_loop, -kIter_succ, kCond_kc, kc_kif, ↓kif_tr, ↓kif_fl, kif_tr, kif_fl, kif_same, ↓kif_not, ↓kif_or, ↓kifg_tr, ↓kifg_fl, ↓kifg_not, ↓kifg_or, ↓kifg_and, kifg_kif, kifB_t, kifB_f, kifB_ft, kifB_tt, kif_bool, kif_int, mergeL, mergeV, mergeS, mergeRs, kSeq_kif, kBlk_kif, kPost_kif, kNext_kif, kFin_kif, kReg_kif, kOps_kif, kO_kif, kG_kif, kDrw_kif, kW_kif, kOpsW_kif, kRet_kif, map_kif, bind_kif, kWant_t, kWant_f, kWant_kif, ↓execI_pick, kPick_bool, kPick_kif, ↓execI_iadr, kIadr_sl, ↓execI_idxs, kIdxs_str, ↓execI_len, ↓rdB_ld, kRd_ptr, kRd_tptr, kRd_tup, kRd_kif, kOpsW_bs, gt0, st0, gt1, st1, gt2, st2, gt3, st3, gt4, st4, gt5, st5, gt6, st6, gt7, st7, gt8, st8, -kWant_bool, -Int.not_le, -Int.not_lt, -decide_eq_true_eq, -decide_eq_false_iff_not, -List.getD_eq_getElem?_getD, -List.set_cons_succ, -List.set_cons_zero, -Bool.and_eq_true, -Bool.or_eq_true, -Bool.not_eq_eq_eq_not, -Bool.or_eq_false_iff, -Bool.and_eq_false_imp, -Bool.not_eq_true, -Bool.not_eq_false]
    rw [hl _ _ M1 (by simp (contextual := true) (maxSteps := 10000000) (implicitDefEqProofs := false) [T7, bxW, tidy, gw.all, ga.all, gs.all, gr.all, gb.all, gc.all, gp.all, kCond_kc, kc_kif, ↓kif_tr, ↓kif_fl, kif_tr, kif_fl, kif_same, ↓kif_not, ↓kif_or, ↓kifg_tr, ↓kifg_fl, ↓kifg_not, ↓kifg_or, ↓kifg_and, kifg_kif, kifB_t, kifB_f, kifB_ft, kifB_tt, kif_bool, kif_int, mergeL, mergeV, mergeS, mergeRs, kSeq_kif, kBlk_kif, kPost_kif, kNext_kif, kFin_kif, kReg_kif, kOps_kif, kO_kif, kG_kif, kDrw_kif, kW_kif, kOpsW_kif, kRet_kif, map_kif, bind_kif, kWant_t, kWant_f, kWant_kif, ↓execI_pick, kPick_bool, kPick_kif, ↓execI_iadr, kIadr_sl, ↓execI_idxs, kIdxs_str, ↓execI_len, ↓rdB_ld, kRd_ptr, kRd_tptr, kRd_tup, kRd_kif, kOpsW_bs, gt0, st0, gt1, st1, gt2, st2, gt3, st3, gt4, st4, gt5, st5, gt6, st6, gt7, st7, gt8, st8, -kWant_bool, -Int.not_le, -Int.not_lt, -decide_eq_true_eq, -decide_eq_false_iff_not, -List.getD_eq_getElem?_getD, -List.set_cons_succ, -List.set_cons_zero, -Bool.and_eq_true, -Bool.or_eq_true, -Bool.not_eq_eq_eq_not, -Bool.or_eq_false_iff, -Bool.and_eq_false_imp, -Bool.not_eq_true, -Bool.not_eq_false])]
    simp (contextual := true) (maxSteps := 10000000) (implicitDefEqProofs := false) [T7, c7_b0, bxW, gw.all, ga.all, gs.all, gr.all, gb.all, gc.all, gp.all, callV_pu, q16, RtW_kif, RtW_some, kCond_kc, kc_kif, ↓kif_tr, ↓kif_fl, kif_tr, kif_fl, kif_same, ↓kif_not, ↓kif_or, ↓kifg_tr, ↓kifg_fl, ↓kifg_not, ↓kifg_or, ↓kifg_and, kifg_kif, kifB_t, kifB_f, kifB_ft, kifB_tt, kif_bool, kif_int, mergeL, mergeV, mergeS, mergeRs, kSeq_kif, kBlk_kif, kPost_kif, kNext_kif, kFin_kif, kReg_kif, kOps_kif, kO_kif, kG_kif, kDrw_kif, kW_kif, kOpsW_kif, kRet_kif, map_kif, bind_kif, kWant_t, kWant_f, kWant_kif, ↓execI_pick, kPick_bool, kPick_kif, ↓execI_iadr, kIadr_sl, ↓execI_idxs, kIdxs_str, ↓execI_len, ↓rdB_ld, kRd_ptr, kRd_tptr, kRd_tup, kRd_kif, kOpsW_bs, gt0, st0, gt1, st1, gt2, st2, gt3, st3, gt4, st4, gt5, st5, gt6, st6, gt7, st7, gt8, st8, -kWant_bool, -Int.not_le, -Int.not_lt, -decide_eq_true_eq, -decide_eq_false_iff_not, -List.getD_eq_getElem?_getD, -List.set_cons_succ, -List.set_cons_zero, -Bool.and_eq_true, -Bool.or_eq_true, -Bool.not_eq_eq_eq_not, -Bool.or_eq_false_iff, -Bool.and_eq_false_imp, -Bool.not_eq_true, -Bool.not_eq_false]
    intro hh
    refine ⟨h0, ?_⟩
    simp at hh
    omega
  · obtain ⟨fr, H, d, rfl, h'⟩ := RtF_eq hr
    simp (contextual := true) (maxSteps := 10000000) (implicitDefEqProofs := false) [gw.all, ga.all, gs.all, gr.all, gb.all, gc.all, gp.all, execC_loop, -kIter_succ, kCond_kc, kc_kif, ↓kif_tr, ↓kif_fl, kif_tr, kif_fl, kif_same, ↓kif_not, ↓kif_or, ↓kifg_tr, ↓kifg_fl, ↓kifg_not, ↓kifg_or, ↓kifg_and, kifg_kif, kifB_t, kifB_f, kifB_ft, kifB_tt, kif_bool, kif_int, mergeL, mergeV, mergeS, mergeRs, kSeq_kif, kBlk_kif, kPost_kif, kNext_kif, kFin_kif, kReg_kif, kOps_kif, kO_kif, kG_kif, kDrw_kif, kW_kif, kOpsW_kif, kRet_kif, map_kif, bind_kif, kWant_t, kWant_f, kWant_kif, ↓execI_pick, kPick_bool, kPick_kif, ↓execI_iadr, kIadr_sl, ↓execI_idxs, kIdxs_str, ↓execI_len, ↓rdB_ld, kRd_ptr, kRd_tptr, kRd_tup, kRd_kif, kOpsW_bs, gt0, st0, gt1, st1, gt2, st2, gt3, st3, gt4, st4, gt5, st5, gt6, st6, gt7, st7, gt8, st8, -kWant_bool, -Int.not_le, -Int.not_lt, -decide_eq_true_eq, -decide_eq_false_iff_not, -List.getD_eq_getElem?_getD, -List.set_cons_succ, -List.set_cons_zero, -Bool.and_eq_true, -Bool.or_eq_true, -Bool.not_eq_eq_eq_not, -Bool.or_eq_false_iff, -Bool.and_eq_false_imp, -Bool.not_eq_true, -Bool.not_eq_false]
    rw [hl _ _ M1 (by simp (contextual := true) (maxSteps := 10000000) (implicitDefEqProofs := false) [T7, bxW, tidy, gw.all, ga.all, gs.all, gr.all, gb.all, gc.all, gp.all, kCond_kc, kc_kif, ↓kif_tr, ↓kif_fl, kif_tr, kif_fl, kif_same, ↓kif_not, ↓kif_or, ↓kifg_tr, ↓kifg_fl, ↓kifg_not, ↓kifg_or, ↓kifg_and, kifg_kif, kifB_t, kifB_f, kifB_ft, kifB_tt, kif_bool, kif_int, mergeL, mergeV, mergeS, mergeRs, kSeq_kif, kBlk_kif, kPost_kif, kNext_kif, kFin_kif, kReg_kif, kOps_kif, kO_kif, kG_kif, kDrw_kif, kW_kif, kOpsW_kif, kRet_kif, map_kif, bind_kif, kWant_t, kWant_f, kWant_kif, ↓execI_pick, kPick_bool, kPick_kif, ↓execI_iadr, kIadr_sl, ↓execI_idxs, kIdxs_str, ↓execI_len, ↓rdB_ld, kRd_ptr, kRd_tptr, kRd_tup, kRd_kif, kOpsW_bs, gt0, st0, gt1, st1, gt2, st2, gt3, st3, gt4, st4, gt5, st5, gt6, st6, gt7, st7, gt8, st8, -kWant_bool, -Int.not_le, -Int.not_lt, -decide_eq_true_eq, -decide_eq_false_iff_not, -List.getD_eq_getElem?_getD, -List.set_cons_succ, -List.set_cons_zero, -Bool.and_eq_true, -Bool.or_eq_true, -Bool.not_eq_eq_eq_not, -Bool.or_eq_false_iff, -Bool.and_eq_false_imp, -Bool.not_eq_true, -Bool.not_eq_false])]
    simp (contextual := true) (maxSteps := 10000000) (implicitDefEqProofs := false) [fin_ret h', RtW_some, kCond_kc, kc_kif, ↓kif_tr, ↓kif_fl, kif_tr, kif_fl, kif_same, ↓kif_not, ↓kif_or, ↓kifg_tr, ↓kifg_fl, ↓kifg_not, ↓kifg_or, ↓kifg_and, kifg_kif, kifB_t, kifB_f, kifB_ft, kifB_tt, kif_bool, kif_int, mergeL, mergeV, mergeS, mergeRs, kSeq_kif, kBlk_kif, kPost_kif, kNext_kif, kFin_kif, kReg_kif, kOps_kif, kO_kif, kG_kif, kDrw_kif, kW_kif, kOpsW_kif, kRet_kif, map_kif, bind_kif, kWant_t, kWant_f, kWant_kif, ↓execI_pick, kPick_bool, kPick_kif, ↓execI_iadr, kIadr_sl, ↓execI_idxs, kIdxs_str, ↓execI_len, ↓rdB_ld, kRd_ptr, kRd_tptr, kRd_tup, kRd_kif, kOpsW_bs, gt0, st0, gt1, st1, gt2, st2, gt3, st3, gt4, st4, gt5, st5, gt6, st6, gt7, st7, gt8, st8, -kWant_bool, -Int.not_le, -Int.not_lt, -decide_eq_true_eq, -decide_eq_false_iff_not, -List.getD_eq_getElem?_getD, -List.set_cons_succ, -List.set_cons_zero, -Bool.and_eq_true, -Bool.or_eq_true, -Bool.not_eq_eq_eq_not, -Bool.or_eq_false_iff, -Bool.and_eq_false_imp, -Bool.not_eq_true, -Bool.not_eq_false]
end Go.AM.Ytegibclhopenmaa

set_option linter.unusedVariables false
set_option linter.unusedSimpArgs false
namespace Go.AM.Ytegibclhopenmaa
open Go Go.AM
set_option maxRecDepth 100000
set_option maxHeartbeats 0
attribute [local congr] kif_congr
theorem mul_bd {a b : Int} (h1 : 0 ≤ a) (h2 : a ≤ 60) (h3 : 0 ≤ b) (h4 : b ≤ 1000) : 0 ≤ a * b ∧ a * b ≤ 60000 := by
  refine ⟨Int.mul_nonneg h1 h3, ?_⟩
  calc a * b ≤ 60 * b := Int.mul_le_mul_of_nonneg_right h2 h3
    _ ≤ 60 * 1000 := Int.mul_le_mul_of_nonneg_left h4 (by decide)
theorem rtI_val {k : IntKind} {X : Int} {x : Res} (h : RtI k (fun n => n = X) x) : ∃ d, x = some (.int k X, [], d) := by
  obtain ⟨n, d, rfl, rfl⟩ := h; exact ⟨d, rfl⟩
def visV (ii dep n : Int) : Int := if ii ≤ 0 then n * dep else (n - 1) * ii + dep
theorem tot19 (k : Nat) (ii dep n : Int) (a b c : V) (ha : S22 [a]) (hb : S22 [b]) (hc : S22 [c]) (h1 : 0 ≤ ii) (h2 : ii ≤ 1000) (h3 : 0 ≤ dep) (h4 : dep ≤ 1000) (h5 : 1 ≤ n) (h6 : n ≤ 60) : RtI .i64 (fun x => x = visV ii dep n) (callF tbl pu (k + 1) 19 [.agg [.int .i64 ii, .int .i64 dep, a, b, c], .int .i64 n] []) := by
  rw [callF_eq tbl19, c19]
  have ga := LS22 ha
  have gb := LS22 hb
  have gc := LS22 hc
  have c1 : decide (n < 1) = false := by simp; omega
  have m1 := mul_bd (a := n) (by omega) h6 h3 h4
  have m2 := mul_bd (a := n - 1) (by omega) (by omega) h1 h2
  have w1 : IntKind.i64.wrap (n * dep) = n * dep := wrap64 (by omega) (by omega)
  have w2 : IntKind.i64.wrap (n - 1) = n - 1 := wrap64 (by omega) (by omega)
  have w3 : IntKind.i64.wrap ((n - 1) * ii) = (n - 1) * ii := wrap64 (by omega) (by omega)
  have w4 : IntKind.i64.wrap ((n - 1) * ii + dep) = (n - 1) * ii + dep := wrap64 (by omega) (by omega)
  by_cases c2 : ii ≤ 0
  · have d2 : decide (ii ≤ 0) = true := by simp; omega
    simp (contextual := true) (maxSteps := 10000000) (implicitDefEqProofs := false) [c1, d2, w1, w2, w3, w4, ga.all, gb.all, gc.all, RtI_some, visV, c2, kCond_kc, kc_kif, ↓kif_tr, ↓kif_fl, kif_tr, kif_fl, kif_same, ↓kif_not, ↓kif_or, ↓kifg_tr, ↓kifg_fl, ↓kifg_not, ↓kifg_or, ↓kifg_and, kifg_kif, kifB_t, kifB_f, kifB_ft, kifB_tt, kif_bool, kif_int, mergeL, mergeV, mergeS, mergeRs, kSeq_kif, kBlk_kif, kPost_kif, kNext_kif, kFin_kif, kReg_kif, kOps_kif, kO_kif, kG_kif, kDrw_kif, kW_kif, kOpsW_kif, kRet_kif, map_kif, bind_kif, kWant_t, kWant_f, kWant_kif, ↓execI_pick, kPick_bool, kPick_kif, ↓execI_iadr, kIadr_sl, ↓execI_idxs, kIdxs_str, ↓execI_len, ↓rdB_ld, kRd_ptr, kRd_tptr, kRd_tup, kRd_kif, kOpsW_bs, gt0, st0, gt1, st1, gt2, st2, gt3, st3, gt4, st4, gt5, st5, gt6, st6, gt7, st7, gt8, st8, -kWant_bool, -Int.not_le, -Int.not_lt, -decide_eq_true_eq, -decide_eq_false_iff_not, -List.getD_eq_getElem?_getD, -List.set_cons_succ, -List.set_cons_zero, -Bool.and_eq_true, -Bool.or_eq_true, -Bool.not_eq_eq_eq_not, -Bool.or_eq_false_iff, -Bool.and_eq_false_imp, -Bool.not_eq_true, -Bool.not_eq_false]
  · have d2 : decide (ii ≤ 0) = false := by simp; omega
    simp (contextual := true) (maxSteps := 10000000) (implicitDefEqProofs := false) [c1, d2, w1, w2, w3, w4, ga.all, gb.all, gc.all, RtI_some, visV, c2, kCond_kc, kc_kif, ↓kif_tr, ↓kif_fl, kif_tr, kif_fl, kif_same, ↓kif_not, ↓kif_or, ↓kifg_tr, ↓kifg_fl, ↓kifg_not, ↓kifg_or, ↓kifg_and, kifg_kif, kifB_t, kifB_f, kifB_ft, kifB_tt, kif_bool, kif_int, mergeL, mergeV, mergeS, mergeRs, kSeq_kif, kBlk_kif, kPost_kif, kNext_kif, kFin_kif, kReg_kif, kOps_kif, kO_kif, kG_kif, kDrw_kif, kW_kif, kOpsW_kif, kRet_kif, map_kif, bind_kif, kWant_t, kWant_f, kWant_kif, ↓execI_pick, kPick_bool, kPick_kif, ↓execI_iadr, kIadr_sl, ↓execI_idxs, kIdxs_str, ↓execI_len, ↓rdB_ld, kRd_ptr, kRd_tptr, kRd_tup, kRd_kif, kOpsW_bs, gt0, st0, gt1, st1, gt2, st2, gt3, st3, gt4, st4, gt5, st5, gt6, st6, gt7, st7, gt8, st8, -kWant_bool, -Int.not_le, -Int.not_lt, -decide_eq_true_eq, -decide_eq_false_iff_not, -List.getD_eq_getElem?_getD, -List.set_cons_succ, -List.set_cons_zero, -Bool.and_eq_true, -Bool.or_eq_true, -Bool.not_eq_eq_eq_not, -Bool.or_eq_false_iff, -Bool.and_eq_false_imp, -Bool.not_eq_true, -Bool.not_eq_false]
instance {bl sc : V} {b : Int} : Decidable (SPp bl sc b) := by unfold SPp; infer_instance
/-- how many cycles a stretch takes -/
def strL (bl sc : V) (b v : Int) : Int := if SPp bl sc b then (v - 1) * ic sc b.toNat 0 + ic sc b.toNat 1 else v * ic sc b.toNat 1
theorem tot17 (K : Nat) (hK : BIG ≤ K) (nm : ByteArray) (w ar st rt bl : V) (h : OkF nm w ar st rt bl) (sc : V) (hs : S28 [sc]) (b v : Int) (hb : 0 ≤ b ∧ b < lenV sc) (ho : okS sc b.toNat) (hv : 1 ≤ v ∧ v ≤ 60) : RtI .i64 (fun x => x = strL bl sc b v) (callF tbl pu (K + 2) 17 [.agg [.str nm, w, ar, st, rt, bl], sc, .agg [.int .i64 b, .int .i64 v]] []) := by
  rw [callF_eq tbl17, c17]
  have gw := LS22 h.w
  have ga := LS23 h.ar
  have gs := LS24 h.st
  have gr := LS22 h.rt
  have gb := LS25 h.bl
  have gc := LS28 hs
  have h1 : decide (b < 0) = false := by simp; omega
  have h2 : decide ((lenV sc : Int) ≤ b) = false := by simp; omega
  have hr := sc_row hs h1 h2
  obtain ⟨-, -, -, s1, s2, s3⟩ := e28 hs (i := b.toNat) (by omega)
  have g1 := LS22 s1
  have g2 := LS22 s2
  have g3 := LS22 s3
  obtain ⟨o1, o2, o3, o4⟩ := ho
  obtain ⟨n, d, q23, hn⟩ := tot23 K hK nm w ar st rt bl h sc hs b
  have m1 := mul_bd (a := v) (by omega) hv.2 o3 o4
  have w1 : IntKind.i64.wrap (v * ic sc b.toNat 1) = v * ic sc b.toNat 1 := wrap64 (by omega) (by omega)
  by_cases c : SPp bl sc b
  · have d1 : decide (n < 0) = false := by have := hn.2 c; simp; omega
    have hii : ¬ ic sc b.toNat 0 ≤ 0 := by have := c.2.2.2.1; omega
    obtain ⟨d19, q19⟩ := rtI_val (tot19 K (ic sc b.toNat 0) (ic sc b.toNat 1) v _ _ _ s1 s2 s3 o1 o2 o3 o4 hv.1 hv.2)
    unfold visV at q19
    rw [if_neg hii] at q19
    simp (contextual := true) (maxSteps := 10000000) (implicitDefEqProofs := false) [h1, h2, hr, d1, gw.all, ga.all, gs.all, gr.all, gb.all, gc.all, g1.all, g2.all, g3.all, kIadr_LS gc, callV_pu, q23, q19, c17_r0, c17_a0, c17_r1, c17_a1, RtI_some, strL, c, kCond_kc, kc_kif, ↓kif_tr, ↓kif_fl, kif_tr, kif_fl, kif_same, ↓kif_not, ↓kif_or, ↓kifg_tr, ↓kifg_fl, ↓kifg_not, ↓kifg_or, ↓kifg_and, kifg_kif, kifB_t, kifB_f, kifB_ft, kifB_tt, kif_bool, kif_int, mergeL, mergeV, mergeS, mergeRs, kSeq_kif, kBlk_kif, kPost_kif, kNext_kif, kFin_kif, kReg_kif, kOps_kif, kO_kif, kG_kif, kDrw_kif, kW_kif, kOpsW_kif, kRet_kif, map_kif, bind_kif, kWant_t, kWant_f, kWant_kif, ↓execI_pick, kPick_bool, kPick_kif, ↓execI_iadr, kIadr_sl, ↓execI_idxs, kIdxs_str, ↓execI_len, ↓rdB_ld, kRd_ptr, kRd_tptr, kRd_tup, kRd_kif, kOpsW_bs, gt0, st0, gt1, st1, gt2, st2, gt3, st3, gt4, st4, gt5, st5, gt6, st6, gt7, st7, gt8, st8, -kWant_bool, -Int.not_le, -Int.not_lt, -decide_eq_true_eq, -decide_eq_false_iff_not, -List.getD_eq_getElem?_getD, -List.set_cons_succ, -List.set_cons_zero, -Bool.and_eq_true, -Bool.or_eq_true, -Bool.not_eq_eq_eq_not, -Bool.or_eq_false_iff, -Bool.and_eq_false_imp, -Bool.not_eq_true, -Bool.not_eq_false]
  · have d1 : decide (n < 0) = true := by
      have : ¬ 0 ≤ n := fun hh => c (hn.1 hh)
      simp; omega
    simp (contextual := true) (maxSteps := 10000000) (implicitDefEqProofs := false) [h1, h2, hr, d1, w1, gw.all, ga.all, gs.all, gr.all, gb.all, gc.all, g1.all, g2.all, g3.all, kIadr_LS gc, callV_pu, q23, c17_r0, c17_a0, c17_r1, c17_a1, RtI_some, strL, c, kCond_kc, kc_kif, ↓kif_tr, ↓kif_fl, kif_tr, kif_fl, kif_same, ↓kif_not, ↓kif_or, ↓kifg_tr, ↓kifg_fl, ↓kifg_not, ↓kifg_or, ↓kifg_and, kifg_kif, kifB_t, kifB_f, kifB_ft, kifB_tt, kif_bool, kif_int, mergeL, mergeV, mergeS, mergeRs, kSeq_kif, kBlk_kif, kPost_kif, kNext_kif, kFin_kif, kReg_kif, kOps_kif, kO_kif, kG_kif, kDrw_kif, kW_kif, kOpsW_kif, kRet_kif, map_kif, bind_kif, kWant_t, kWant_f, kWant_kif, ↓execI_pick, kPick_bool, kPick_kif, ↓execI_iadr, kIadr_sl, ↓execI_idxs, kIdxs_str, ↓execI_len, ↓rdB_ld, kRd_ptr, kRd_tptr, kRd_tup, kRd_kif, kOpsW_bs, gt0, st0, gt1, st1, gt2, st2, gt3, st3, gt4, st4, gt5, st5, gt6, st6, gt7, st7, gt8, st8, -kWant_bool, -Int.not_le, -Int.not_lt, -decide_eq_true_eq, -decide_eq_false_iff_not, -List.getD_eq_getElem?_getD, -List.set_cons_succ, -List.set_cons_zero, -Bool.and_eq_true, -Bool.or_eq_true, -Bool.not_eq_eq_eq_not, -Bool.or_eq_false_iff, -Bool.and_eq_false_imp, -Bool.not_eq_true, -Bool.not_eq_false]
end Go.AM.Ytegibclhopenmaa
