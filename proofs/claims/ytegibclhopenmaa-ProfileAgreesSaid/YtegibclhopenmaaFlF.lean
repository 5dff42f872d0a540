/- jacquardref08: instruction. -/
import Derived.Test.YtegibclhopenmaaFlE
set_option linter.unusedVariables false
set_option linter.unusedSimpArgs false
namespace Go.AM.Ytegibclhopenmaa
open Go Go.AM
set_option maxRecDepth 100000
set_option maxHeartbeats 0
attribute [local congr] kif_congr
theorem ar_row {v : V} (h : S23 [v]) {x : Int} (h1 : decide (x < 0) = false) (h2 : decide ((lenV v : Int) ≤ x) = false) : row v x.toNat = [.str (sc v x.toNat 0), .int .i64 (ic v x.toNat 1), .int .i64 (ic v x.toNat 2), .int .i64 (ic v x.toNat 3), .int .i64 (ic v x.toNat 4)] := by
  simp at h1 h2
  exact (e23 h (by omega)).1
theorem st_row {v : V} (h : S24 [v]) {x : Int} (h1 : decide (x < 0) = false) (h2 : decide ((lenV v : Int) ≤ x) = false) : row v x.toNat = [.str (sc v x.toNat 0), .int .i64 (ic v x.toNat 1), .bool (bc v x.toNat 2)] := by
  simp at h1 h2
  exact (e24 h (by omega)).1
/-- three numbers -/
def RI (es : List (List V)) : Prop := es.length = 3 ∧ ∀ i, i < 3 → ∃ n, es[i]? = some [.int .i64 n]
theorem RI_lit {es : List (List V)} (h : RI es) : ∃ n0 n1 n2, es = [[.int .i64 n0], [.int .i64 n1], [.int .i64 n2]] := by
  obtain ⟨h1, h2⟩ := h
  match es, h1 with
  | [a, b, c], _ =>
    obtain ⟨n0, e0⟩ := h2 0 (by omega)
    obtain ⟨n1, e1⟩ := h2 1 (by omega)
    obtain ⟨n2, e2⟩ := h2 2 (by omega)
    simp at e0 e1 e2
    exact ⟨n0, n1, n2, by rw [e0, e1, e2]⟩
def bxI (op de : Int) (aa : V) (nu me : Int) : Blk := ⟨5, [[.int .i64 op, .int .i64 de, aa, .int .u64 nu, .int .i64 me]], 0, true, aa.flat⟩
def T32 (nm : ByteArray) (w ar st rt bl : V) (op de : Int) (aa : V) (nu me : Int) (mm : Bool) (wi : Int) (es : List (List V)) (j : Nat) (d : Bool) : St := ⟨[.undef, .undef, .ptr 0 1 0 0, .ptr 1 1 0 0, .undef, .bool mm, .int .i64 wi, .sl 1 2 3 0 3, .int .i64 j, .undef, .undef, .undef, .undef, .undef, .undef, .undef, .undef, .undef, .undef, .undef, .undef, .undef, .undef, .undef, .undef, .undef, .undef, .undef, .undef, .undef, .undef, .undef, .undef, .undef, .undef, .undef, .undef, .undef, .undef, .undef, .undef, .undef, .undef, .undef, .undef, .undef, .undef, .undef, .undef, .undef, .undef, .undef, .undef, .undef, .undef, .undef, .undef, .undef, .undef, .undef, .undef, .undef, .undef, .undef, .undef, .undef, .undef, .undef, .undef, .undef, .undef, .undef, .undef, .undef, .undef, .undef, .undef, .undef, .undef, .undef, .undef, .undef, .undef, .undef, .undef, .undef, .undef, .undef, .undef, .undef, .undef, .undef, .undef, .undef, .undef, .undef, .undef, .undef, .undef, .undef, .undef, .undef, .undef, .undef, .undef, .undef, .undef, .undef, .undef, .undef, .undef, .undef, .undef, .undef, .undef, .undef, .undef, .undef, .undef, .undef, .undef, .undef, .undef, .undef, .undef, .undef, .undef, .undef, .undef, .undef, .undef, .undef, .undef, .undef, .undef, .undef, .undef, .undef, .undef, .undef, .undef, .undef, .undef, .undef, .undef, .undef, .undef, .undef, .undef, .undef, .undef, .undef, .undef, .undef, .undef, .undef, .undef, .undef, .undef, .undef, .undef, .undef, .undef, .undef, .undef, .undef, .undef, .undef, .undef, .undef, .undef, .undef, .undef, .undef, .undef, .undef, .undef, .undef, .undef, .undef, .undef, .undef, .undef, .undef, .undef, .undef, .undef, .undef, .undef, .undef, .undef, .undef, .undef, .undef, .undef, .undef, .undef, .undef, .undef, .undef, .undef, .undef, .undef, .undef, .undef, .undef, .undef, .undef, .undef, .undef, .undef, .undef, .undef, .undef, .undef, .undef, .undef, .undef, .undef, .undef, .undef, .undef, .undef, .undef, .undef, .undef, .undef, .undef, .undef, .undef, .undef, .undef, .undef, .undef, .undef, .undef, .undef, .undef, .undef, .undef], [bxF nm w ar st rt bl, bxI op de aa nu me, ⟨1, es, 0, false, true⟩], d⟩
def I32 (nm : ByteArray) (w ar st rt bl : V) (op de : Int) (aa : V) (nu me : Int) (mm : Bool) (wi : Int) (j : Nat) (t : St) : Prop := ∃ es d, RI es ∧ t = T32 nm w ar st rt bl op de aa nu me mm wi es j d
theorem g32 (call : CallT) (K : Nat) (nm : ByteArray) (w ar st rt bl : V) (h : OkF nm w ar st rt bl) (op de : Int) (aa : V) (nu me : Int) (mm : Bool) (wi : Int) (j : Nat) (ha : S22 [aa]) (h3 : lenV aa ≤ 3) (hin : ∀ j, j < lenV aa → inW w aa j) (hj : j < lenV aa) (t : St) (ht : I32 nm w ar st rt bl op de aa nu me mm wi j t) :
    Go1 (tidy [2, 3, 5, 6, 7, 8] 0) (I32 nm w ar st rt bl op de aa nu me mm wi (j + 1)) (fun _ => False) (execC call pu 0 K c32_b0 t) := by
  obtain ⟨es, d, ⟨hl, he⟩, rfl⟩ := ht
  have gw := LS22 h.w
  have ga := LS23 h.ar
  have gs := LS24 h.st
  have gr := LS22 h.rt
  have gb := LS25 h.bl
  have gA := LS22 ha
  have h1 : IntKind.i64.wrap ((j : Int) + 1) = (j : Int) + 1 := wrap64 (by omega) (by omega)
  have h3' : decide (lenV aa ≤ j) = false := by simp; omega
  have h4' : decide (j < lenV aa) = true := by simp; omega
  have h4 : decide ((3 : Int) ≤ (j : Int)) = false := by simp; omega
  have h5 := hin j (by omega)
  unfold inW at h5
  have h6 : decide (ic aa j 0 < 0) = false := by simp; omega
  have h7 : decide ((lenV w : Int) ≤ ic aa j 0) = false := by simp; omega
  have h8 := in_row h.w h6 h7
  obtain ⟨n, hn⟩ := he j (by omega)
  have hbar : barrierW c32_r0 c32_a0 [(3, false, [0]), (5, false, [1]), (12, true, [2])] 12 [2] = true := by rfl
  unfold c32_r0 c32_a0 at hbar
  unfold c32_b0 T32 c32_r0 c32_a0 bxF bxI
  simp (contextual := true) (maxSteps := 10000000) (implicitDefEqProofs := false) [h1, h3', h4', h4, h6, h7, h8, hl, hn, freezeH, hbar, gw.all, ga.all, gs.all, gr.all, gb.all, gA.all, kIadr_LS gw, kIadr_LS gA, (e22 ha hj).1, Go1_kif, Go1_ret, Go1_normal, Go1_exit, RtF_ret, ex_eq, ex_eq2, tidy, kCond_kc, kc_kif, ↓kif_tr, ↓kif_fl, kif_tr, kif_fl, kif_same, ↓kif_not, ↓kif_or, ↓kifg_tr, ↓kifg_fl, ↓kifg_not, ↓kifg_or, ↓kifg_and, kifg_kif, kifB_t, kifB_f, kifB_ft, kifB_tt, kif_bool, kif_int, mergeL, mergeV, mergeS, mergeRs, kSeq_kif, kBlk_kif, kPost_kif, kNext_kif, kFin_kif, kReg_kif, kOps_kif, kO_kif, kG_kif, kDrw_kif, kW_kif, kOpsW_kif, kRet_kif, map_kif, bind_kif, kWant_t, kWant_f, kWant_kif, ↓execI_pick, kPick_bool, kPick_kif, ↓execI_iadr, kIadr_sl, ↓execI_idxs, kIdxs_str, ↓execI_len, ↓rdB_ld, kRd_ptr, kRd_tptr, kRd_tup, kRd_kif, kOpsW_bs, gt0, st0, gt1, st1, gt2, st2, gt3, st3, gt4, st4, gt5, st5, gt6, st6, gt7, st7, gt8, st8, -kWant_bool, -Int.not_le, -Int.not_lt, -decide_eq_true_eq, -decide_eq_false_iff_not, -List.getD_eq_getElem?_getD, -List.set_cons_succ, -List.set_cons_zero, -Bool.and_eq_true, -Bool.or_eq_true, -Bool.not_eq_eq_eq_not, -Bool.or_eq_false_iff, -Bool.and_eq_false_imp, -Bool.not_eq_true, -Bool.not_eq_false]
  refine ⟨_, _, ⟨by simp [hl], fun i hi => ?_⟩, rfl⟩
  by_cases hij : i = j
  · subst hij
    exact ⟨_, List.getElem?_set_self (by omega)⟩
  · rw [List.getElem?_set_ne (by omega)]
    exact he i hi
theorem x32 (call : CallT) (K : Nat) (nm : ByteArray) (w ar st rt bl : V) (h : OkF nm w ar st rt bl) (op de : Int) (aa : V) (nu me : Int) (mm : Bool) (wi : Int) (ha : S22 [aa]) (t : St) (ht : I32 nm w ar st rt bl op de aa nu me mm wi (lenV aa) t) : Nn (execC call pu 0 K c32_b0 t) := by
  obtain ⟨es, d, ⟨hl, he⟩, rfl⟩ := ht
  have gw := LS22 h.w
  have ga := LS23 h.ar
  have gs := LS24 h.st
  have gr := LS22 h.rt
  have gb := LS25 h.bl
  have gA := LS22 ha
  unfold c32_b0 T32 bxF bxI
  simp (contextual := true) (maxSteps := 10000000) (implicitDefEqProofs := false) [gA.all, Nn_exit, kCond_kc, kc_kif, ↓kif_tr, ↓kif_fl, kif_tr, kif_fl, kif_same, ↓kif_not, ↓kif_or, ↓kifg_tr, ↓kifg_fl, ↓kifg_not, ↓kifg_or, ↓kifg_and, kifg_kif, kifB_t, kifB_f, kifB_ft, kifB_tt, kif_bool, kif_int, mergeL, mergeV, mergeS, mergeRs, kSeq_kif, kBlk_kif, kPost_kif, kNext_kif, kFin_kif, kReg_kif, kOps_kif, kO_kif, kG_kif, kDrw_kif, kW_kif, kOpsW_kif, kRet_kif, map_kif, bind_kif, kWant_t, kWant_f, kWant_kif, ↓execI_pick, kPick_bool, kPick_kif, ↓execI_iadr, kIadr_sl, ↓execI_idxs, kIdxs_str, ↓execI_len, ↓rdB_ld, kRd_ptr, kRd_tptr, kRd_tup, kRd_kif, kOpsW_bs, gt0, st0, gt1, st1, gt2, st2, gt3, st3, gt4, st4, gt5, st5, gt6, st6, gt7, st7, gt8, st8, -kWant_bool, -Int.not_le, -Int.not_lt, -decide_eq_true_eq, -decide_eq_false_iff_not, -List.getD_eq_getElem?_getD, -List.set_cons_succ, -List.set_cons_zero, -Bool.and_eq_true, -Bool.or_eq_true, -Bool.not_eq_eq_eq_not, -Bool.or_eq_false_iff, -Bool.and_eq_false_imp, -Bool.not_eq_true, -Bool.not_eq_false]
theorem tot32 (K : Nat) (hK : BIG ≤ K) (nm : ByteArray) (w ar st rt bl : V) (h : OkF nm w ar st rt bl) (op de : Int) (aa : V) (nu me : Int) (ha : S22 [aa]) (h3 : lenV aa ≤ 3) (hin : ∀ j, j < lenV aa → inW w aa j) (hd : qb 31 (K + 3) [.int .i64 op] = true → 0 ≤ de ∧ de < lenV w) :
    RtT (callF tbl pu (K + 4) 32 [.agg [.str nm, w, ar, st, rt, bl], .agg [.int .i64 op, .int .i64 de, aa, .int .u64 nu, .int .i64 me]] []) := by
  rw [callF_eq tbl32, c32]
  have gw := LS22 h.w
  have ga := LS23 h.ar
  have gs := LS24 h.st
  have gr := LS22 h.rt
  have gb := LS25 h.bl
  have gA := LS22 ha
  have q31 := eq31 K op
  have ra := fun x => ar_row h.ar (x := x)
  have rs := fun x => st_row h.st (x := x)
  have hM : lenV aa < K + 3 := big_lt (len22 ha) (big_add 3 hK)
  have q43 := fun w x => eq43 K hK w x
  generalize hq : qb 31 (K + 3) [.int .i64 op] = q at q31 hd
  have h1 : q = true → decide (de < 0) = false := fun hh => by have := hd hh; simp; omega
  have h2 : q = true → decide ((lenV w : Int) ≤ de) = false := fun hh => by have := hd hh; simp; omega
  have h5 : q = true → row w de.toNat = [.int .i64 (ic w de.toNat 0)] := fun hh => in_row h.w (h1 hh) (h2 hh)
  rcases loop_go (t0 := T32 nm w ar st rt bl op de aa nu me (decide (25 ≤ op) && decide (op ≤ 28)) (kif q (ic w de.toNat 0) 0) [[.int .i64 0], [.int .i64 0], [.int .i64 0]] 0 false) (pre := tidy [2, 3, 5, 6, 7, 8] 0) (fun j t hj ht => g32 (callF tbl pu (K + 3)) (K + 3) nm w ar st rt bl h op de aa nu me (decide (25 ≤ op) && decide (op ≤ 28)) (kif q (ic w de.toNat 0) 0) j ha h3 hin hj t ht) (fun t ht => x32 (callF tbl pu (K + 3)) (K + 3) nm w ar st rt bl h op de aa nu me _ _ ha t ht) ⟨_, _, ⟨rfl, fun i hi => by
    rcases (by omega : i = 0 ∨ i = 1 ∨ i = 2) with rfl | rfl | rfl
    · exact ⟨_, rfl⟩
    · exact ⟨_, rfl⟩
    · exact ⟨_, rfl⟩⟩, rfl⟩ with ⟨t, ⟨es, d, ⟨hes, he⟩, rfl⟩, hl⟩ | ⟨r, hr, hl⟩
  · simp (contextual := true) (maxSteps := 10000000) (implicitDefEqProofs := false) [h1, h2, h5, gw.all, ga.all, gs.all, gr.all, gb.all, gA.all, kIadr_LS gw, callV_pu, q31, execC_loop, -kIter_succ, RtT_kif, RtT_some, kCond_kc, kc_kif, ↓kif_tr, ↓kif_fl, kif_tr, kif_fl, kif_same, ↓kif_not, ↓kif_or, ↓kifg_tr, ↓kifg_fl, ↓kifg_not, ↓kifg_or, ↓kifg_and, kifg_kif, kifB_t, kifB_f, kifB_ft, kifB_tt, kif_bool, kif_int, mergeL, mergeV, mergeS, mergeRs, kSeq_kif, kBlk_kif, kPost_kif, kNext_kif, kFin_kif, kReg_kif, kOps_kif, kO_kif, kG_kif, kDrw_kif, kW_kif, kOpsW_kif, kRet_kif, map_kif, bind_kif, kWant_t, kWant_f, kWant_kif, ↓execI_pick, kPick_bool, kPick_kif, ↓execI_iadr, kIadr_sl, ↓execI_idxs, kIdxs_str, ↓execI_len, ↓rdB_ld, kRd_ptr, kRd_tptr, kRd_tup, kRd_kif, kOpsW_bs, gt0, st0, gt1, st1, gt2, st2, gt3, st3, gt4, st4, gt5, st5, gt6, st6, gt7, st7, gt8, st8, -kWant_bool, -Int.not_le, -Int.not_lt, -decide_eq_true_eq, -decide_eq_false_iff_not, -List.getD_eq_getElem?_getD, -List.set_cons_succ, -List.set_cons_zero, -Bool.and_eq_true, -Bool.or_eq_true, -Bool.not_eq_eq_eq_not, -Bool.or_eq_false_iff, -Bool.and_eq_false_imp, -Bool.not_eq_true, -Bool.not_eq_false]
    intro c1 c2
    rw [hl _ _ hM (by simp (contextual := true) (maxSteps := 10000000) (implicitDefEqProofs := false) [T32, bxF, bxI, tidy, gw.all, ga.all, gs.all, gr.all, gb.all, gA.all, kCond_kc, kc_kif, ↓kif_tr, ↓kif_fl, kif_tr, kif_fl, kif_same, ↓kif_not, ↓kif_or, ↓kifg_tr, ↓kifg_fl, ↓kifg_not, ↓kifg_or, ↓kifg_and, kifg_kif, kifB_t, kifB_f, kifB_ft, kifB_tt, kif_bool, kif_int, mergeL, mergeV, mergeS, mergeRs, kSeq_kif, kBlk_kif, kPost_kif, kNext_kif, kFin_kif, kReg_kif, kOps_kif, kO_kif, kG_kif, kDrw_kif, kW_kif, kOpsW_kif, kRet_kif, map_kif, bind_kif, kWant_t, kWant_f, kWant_kif, ↓execI_pick, kPick_bool, kPick_kif, ↓execI_iadr, kIadr_sl, ↓execI_idxs, kIdxs_str, ↓execI_len, ↓rdB_ld, kRd_ptr, kRd_tptr, kRd_tup, kRd_kif, kOpsW_bs, gt0, st0, gt1, st1, gt2, st2, gt3, st3, gt4, st4, gt5, st5, gt6, st6, gt7, st7, gt8, st8, -kWant_bool, -Int.not_le, -Int.not_lt, -decide_eq_true_eq, -decide_eq_false_iff_not, -List.getD_eq_getElem?_getD, -List.set_cons_succ, -List.set_cons_zero, -Bool.and_eq_true, -Bool.or_eq_true, -Bool.not_eq_eq_eq_not, -Bool.or_eq_false_iff, -Bool.and_eq_false_imp, -Bool.not_eq_true, -Bool.not_eq_false])]
    obtain ⟨i0, i1, i2, rfl⟩ := RI_lit ⟨hes, he⟩
    clear hes he
    clear c1 c2
    by_cases k1 : op = 1
    · subst k1
      simp (contextual := true) (maxSteps := 10000000) (implicitDefEqProofs := false) [T32, c32_b0, c32_r1, c32_a1, c32_r2, c32_a2, c32_r3, c32_a3, bxF, bxI, gw.all, ga.all, gs.all, gr.all, gb.all, gA.all, ra, rs, kIadr_LS ga, kIadr_LS gs, callV_pu, q43, eq44, RtT_kif, RtT_some, kCond_kc, kc_kif, ↓kif_tr, ↓kif_fl, kif_tr, kif_fl, kif_same, ↓kif_not, ↓kif_or, ↓kifg_tr, ↓kifg_fl, ↓kifg_not, ↓kifg_or, ↓kifg_and, kifg_kif, kifB_t, kifB_f, kifB_ft, kifB_tt, kif_bool, kif_int, mergeL, mergeV, mergeS, mergeRs, kSeq_kif, kBlk_kif, kPost_kif, kNext_kif, kFin_kif, kReg_kif, kOps_kif, kO_kif, kG_kif, kDrw_kif, kW_kif, kOpsW_kif, kRet_kif, map_kif, bind_kif, kWant_t, kWant_f, kWant_kif, ↓execI_pick, kPick_bool, kPick_kif, ↓execI_iadr, kIadr_sl, ↓execI_idxs, kIdxs_str, ↓execI_len, ↓rdB_ld, kRd_ptr, kRd_tptr, kRd_tup, kRd_kif, kOpsW_bs, gt0, st0, gt1, st1, gt2, st2, gt3, st3, gt4, st4, gt5, st5, gt6, st6, gt7, st7, gt8, st8, -kWant_bool, -Int.not_le, -Int.not_lt, -decide_eq_true_eq, -decide_eq_false_iff_not, -List.getD_eq_getElem?_getD, -List.set_cons_succ, -List.set_cons_zero, -Bool.and_eq_true, -Bool.or_eq_true, -Bool.not_eq_eq_eq_not, -Bool.or_eq_false_iff, -Bool.and_eq_false_imp, -Bool.not_eq_true, -Bool.not_eq_false]
    by_cases k21 : op = 21
    · subst k21
      simp (contextual := true) (maxSteps := 10000000) (implicitDefEqProofs := false) [T32, c32_b0, c32_r1, c32_a1, c32_r2, c32_a2, c32_r3, c32_a3, bxF, bxI, gw.all, ga.all, gs.all, gr.all, gb.all, gA.all, ra, rs, kIadr_LS ga, kIadr_LS gs, callV_pu, q43, eq44, RtT_kif, RtT_some, kCond_kc, kc_kif, ↓kif_tr, ↓kif_fl, kif_tr, kif_fl, kif_same, ↓kif_not, ↓kif_or, ↓kifg_tr, ↓kifg_fl, ↓kifg_not, ↓kifg_or, ↓kifg_and, kifg_kif, kifB_t, kifB_f, kifB_ft, kifB_tt, kif_bool, kif_int, mergeL, mergeV, mergeS, mergeRs, kSeq_kif, kBlk_kif, kPost_kif, kNext_kif, kFin_kif, kReg_kif, kOps_kif, kO_kif, kG_kif, kDrw_kif, kW_kif, kOpsW_kif, kRet_kif, map_kif, bind_kif, kWant_t, kWant_f, kWant_kif, ↓execI_pick, kPick_bool, kPick_kif, ↓execI_iadr, kIadr_sl, ↓execI_idxs, kIdxs_str, ↓execI_len, ↓rdB_ld, kRd_ptr, kRd_tptr, kRd_tup, kRd_kif, kOpsW_bs, gt0, st0, gt1, st1, gt2, st2, gt3, st3, gt4, st4, gt5, st5, gt6, st6, gt7, st7, gt8, st8, -kWant_bool, -Int.not_le, -Int.not_lt, -decide_eq_true_eq, -decide_eq_false_iff_not, -List.getD_eq_getElem?_getD, -List.set_cons_succ, -List.set_cons_zero, -Bool.and_eq_true, -Bool.or_eq_true, -Bool.not_eq_eq_eq_not, -Bool.or_eq_false_iff, -Bool.and_eq_false_imp, -Bool.not_eq_true, -Bool.not_eq_false]
    by_cases k22 : op = 22
    · subst k22
      simp (contextual := true) (maxSteps := 10000000) (implicitDefEqProofs := false) [T32, c32_b0, c32_r1, c32_a1, c32_r2, c32_a2, c32_r3, c32_a3, bxF, bxI, gw.all, ga.all, gs.all, gr.all, gb.all, gA.all, ra, rs, kIadr_LS ga, kIadr_LS gs, callV_pu, q43, eq44, RtT_kif, RtT_some, kCond_kc, kc_kif, ↓kif_tr, ↓kif_fl, kif_tr, kif_fl, kif_same, ↓kif_not, ↓kif_or, ↓kifg_tr, ↓kifg_fl, ↓kifg_not, ↓kifg_or, ↓kifg_and, kifg_kif, kifB_t, kifB_f, kifB_ft, kifB_tt, kif_bool, kif_int, mergeL, mergeV, mergeS, mergeRs, kSeq_kif, kBlk_kif, kPost_kif, kNext_kif, kFin_kif, kReg_kif, kOps_kif, kO_kif, kG_kif, kDrw_kif, kW_kif, kOpsW_kif, kRet_kif, map_kif, bind_kif, kWant_t, kWant_f, kWant_kif, ↓execI_pick, kPick_bool, kPick_kif, ↓execI_iadr, kIadr_sl, ↓execI_idxs, kIdxs_str, ↓execI_len, ↓rdB_ld, kRd_ptr, kRd_tptr, kRd_tup, kRd_kif, kOpsW_bs, gt0, st0, gt1, st1, gt2, st2, gt3, st3, gt4, st4, gt5, st5, gt6, st6, gt7, st7, gt8, st8, -kWant_bool, -Int.not_le, -Int.not_lt, -decide_eq_true_eq, -decide_eq_false_iff_not, -List.getD_eq_getElem?_getD, -List.set_cons_succ, -List.set_cons_zero, -Bool.and_eq_true, -Bool.or_eq_true, -Bool.not_eq_eq_eq_not, -Bool.or_eq_false_iff, -Bool.and_eq_false_imp, -Bool.not_eq_true, -Bool.not_eq_false]
    by_cases k23 : op = 23
    · subst k23
      simp (contextual := true) (maxSteps := 10000000) (implicitDefEqProofs := false) [T32, c32_b0, c32_r1, c32_a1, c32_r2, c32_a2, c32_r3, c32_a3, bxF, bxI, gw.all, ga.all, gs.all, gr.all, gb.all, gA.all, ra, rs, kIadr_LS ga, kIadr_LS gs, callV_pu, q43, eq44, RtT_kif, RtT_some, kCond_kc, kc_kif, ↓kif_tr, ↓kif_fl, kif_tr, kif_fl, kif_same, ↓kif_not, ↓kif_or, ↓kifg_tr, ↓kifg_fl, ↓kifg_not, ↓kifg_or, ↓kifg_and, kifg_kif, kifB_t, kifB_f, kifB_ft, kifB_tt, kif_bool, kif_int, mergeL, mergeV, mergeS, mergeRs, kSeq_kif, kBlk_kif, kPost_kif, kNext_kif, kFin_kif, kReg_kif, kOps_kif, kO_kif, kG_kif, kDrw_kif, kW_kif, kOpsW_kif, kRet_kif, map_kif, bind_kif, kWant_t, kWant_f, kWant_kif, ↓execI_pick, kPick_bool, kPick_kif, ↓execI_iadr, kIadr_sl, ↓execI_idxs, kIdxs_str, ↓execI_len, ↓rdB_ld, kRd_ptr, kRd_tptr, kRd_tup, kRd_kif, kOpsW_bs, gt0, st0, gt1, st1, gt2, st2, gt3, st3, gt4, st4, gt5, st5, gt6, st6, gt7, st7, gt8, st8, -kWant_bool, -Int.not_le, -Int.not_lt, -decide_eq_true_eq, -decide_eq_false_iff_not, -List.getD_eq_getElem?_getD, -List.set_cons_succ, -List.set_cons_zero, -Bool.and_eq_true, -Bool.or_eq_true, -Bool.not_eq_eq_eq_not, -Bool.or_eq_false_iff, -Bool.and_eq_false_imp, -Bool.not_eq_true, -Bool.not_eq_false]
    by_cases k24 : op = 24
    · subst k24
      simp (contextual := true) (maxSteps := 10000000) (implicitDefEqProofs := false) [T32, c32_b0, c32_r1, c32_a1, c32_r2, c32_a2, c32_r3, c32_a3, bxF, bxI, gw.all, ga.all, gs.all, gr.all, gb.all, gA.all, ra, rs, kIadr_LS ga, kIadr_LS gs, callV_pu, q43, eq44, RtT_kif, RtT_some, kCond_kc, kc_kif, ↓kif_tr, ↓kif_fl, kif_tr, kif_fl, kif_same, ↓kif_not, ↓kif_or, ↓kifg_tr, ↓kifg_fl, ↓kifg_not, ↓kifg_or, ↓kifg_and, kifg_kif, kifB_t, kifB_f, kifB_ft, kifB_tt, kif_bool, kif_int, mergeL, mergeV, mergeS, mergeRs, kSeq_kif, kBlk_kif, kPost_kif, kNext_kif, kFin_kif, kReg_kif, kOps_kif, kO_kif, kG_kif, kDrw_kif, kW_kif, kOpsW_kif, kRet_kif, map_kif, bind_kif, kWant_t, kWant_f, kWant_kif, ↓execI_pick, kPick_bool, kPick_kif, ↓execI_iadr, kIadr_sl, ↓execI_idxs, kIdxs_str, ↓execI_len, ↓rdB_ld, kRd_ptr, kRd_tptr, kRd_tup, kRd_kif, kOpsW_bs, gt0, st0, gt1, st1, gt2, st2, gt3, st3, gt4, st4, gt5, st5, gt6, st6, gt7, st7, gt8, st8, -kWant_bool, -Int.not_le, -Int.not_lt, -decide_eq_true_eq, -decide_eq_false_iff_not, -List.getD_eq_getElem?_getD, -List.set_cons_succ, -List.set_cons_zero, -Bool.and_eq_true, -Bool.or_eq_true, -Bool.not_eq_eq_eq_not, -Bool.or_eq_false_iff, -Bool.and_eq_false_imp, -Bool.not_eq_true, -Bool.not_eq_false]
    by_cases k25 : op = 25
    · subst k25
      simp (contextual := true) (maxSteps := 10000000) (implicitDefEqProofs := false) [T32, c32_b0, c32_r1, c32_a1, c32_r2, c32_a2, c32_r3, c32_a3, bxF, bxI, gw.all, ga.all, gs.all, gr.all, gb.all, gA.all, ra, rs, kIadr_LS ga, kIadr_LS gs, callV_pu, q43, eq44, RtT_kif, RtT_some, kCond_kc, kc_kif, ↓kif_tr, ↓kif_fl, kif_tr, kif_fl, kif_same, ↓kif_not, ↓kif_or, ↓kifg_tr, ↓kifg_fl, ↓kifg_not, ↓kifg_or, ↓kifg_and, kifg_kif, kifB_t, kifB_f, kifB_ft, kifB_tt, kif_bool, kif_int, mergeL, mergeV, mergeS, mergeRs, kSeq_kif, kBlk_kif, kPost_kif, kNext_kif, kFin_kif, kReg_kif, kOps_kif, kO_kif, kG_kif, kDrw_kif, kW_kif, kOpsW_kif, kRet_kif, map_kif, bind_kif, kWant_t, kWant_f, kWant_kif, ↓execI_pick, kPick_bool, kPick_kif, ↓execI_iadr, kIadr_sl, ↓execI_idxs, kIdxs_str, ↓execI_len, ↓rdB_ld, kRd_ptr, kRd_tptr, kRd_tup, kRd_kif, kOpsW_bs, gt0, st0, gt1, st1, gt2, st2, gt3, st3, gt4, st4, gt5, st5, gt6, st6, gt7, st7, gt8, st8, -kWant_bool, -Int.not_le, -Int.not_lt, -decide_eq_true_eq, -decide_eq_false_iff_not, -List.getD_eq_getElem?_getD, -List.set_cons_succ, -List.set_cons_zero, -Bool.and_eq_true, -Bool.or_eq_true, -Bool.not_eq_eq_eq_not, -Bool.or_eq_false_iff, -Bool.and_eq_false_imp, -Bool.not_eq_true, -Bool.not_eq_false]
    by_cases k26 : op = 26
    · subst k26
      simp (contextual := true) (maxSteps := 10000000) (implicitDefEqProofs := false) [T32, c32_b0, c32_r1, c32_a1, c32_r2, c32_a2, c32_r3, c32_a3, bxF, bxI, gw.all, ga.all, gs.all, gr.all, gb.all, gA.all, ra, rs, kIadr_LS ga, kIadr_LS gs, callV_pu, q43, eq44, RtT_kif, RtT_some, kCond_kc, kc_kif, ↓kif_tr, ↓kif_fl, kif_tr, kif_fl, kif_same, ↓kif_not, ↓kif_or, ↓kifg_tr, ↓kifg_fl, ↓kifg_not, ↓kifg_or, ↓kifg_and, kifg_kif, kifB_t, kifB_f, kifB_ft, kifB_tt, kif_bool, kif_int, mergeL, mergeV, mergeS, mergeRs, kSeq_kif, kBlk_kif, kPost_kif, kNext_kif, kFin_kif, kReg_kif, kOps_kif, kO_kif, kG_kif, kDrw_kif, kW_kif, kOpsW_kif, kRet_kif, map_kif, bind_kif, kWant_t, kWant_f, kWant_kif, ↓execI_pick, kPick_bool, kPick_kif, ↓execI_iadr, kIadr_sl, ↓execI_idxs, kIdxs_str, ↓execI_len, ↓rdB_ld, kRd_ptr, kRd_tptr, kRd_tup, kRd_kif, kOpsW_bs, gt0, st0, gt1, st1, gt2, st2, gt3, st3, gt4, st4, gt5, st5, gt6, st6, gt7, st7, gt8, st8, -kWant_bool, -Int.not_le, -Int.not_lt, -decide_eq_true_eq, -decide_eq_false_iff_not, -List.getD_eq_getElem?_getD, -List.set_cons_succ, -List.set_cons_zero, -Bool.and_eq_true, -Bool.or_eq_true, -Bool.not_eq_eq_eq_not, -Bool.or_eq_false_iff, -Bool.and_eq_false_imp, -Bool.not_eq_true, -Bool.not_eq_false]
    by_cases k27 : op = 27
    · subst k27
      simp (contextual := true) (maxSteps := 10000000) (implicitDefEqProofs := false) [T32, c32_b0, c32_r1, c32_a1, c32_r2, c32_a2, c32_r3, c32_a3, bxF, bxI, gw.all, ga.all, gs.all, gr.all, gb.all, gA.all, ra, rs, kIadr_LS ga, kIadr_LS gs, callV_pu, q43, eq44, RtT_kif, RtT_some, kCond_kc, kc_kif, ↓kif_tr, ↓kif_fl, kif_tr, kif_fl, kif_same, ↓kif_not, ↓kif_or, ↓kifg_tr, ↓kifg_fl, ↓kifg_not, ↓kifg_or, ↓kifg_and, kifg_kif, kifB_t, kifB_f, kifB_ft, kifB_tt, kif_bool, kif_int, mergeL, mergeV, mergeS, mergeRs, kSeq_kif, kBlk_kif, kPost_kif, kNext_kif, kFin_kif, kReg_kif, kOps_kif, kO_kif, kG_kif, kDrw_kif, kW_kif, kOpsW_kif, kRet_kif, map_kif, bind_kif, kWant_t, kWant_f, kWant_kif, ↓execI_pick, kPick_bool, kPick_kif, ↓execI_iadr, kIadr_sl, ↓execI_idxs, kIdxs_str, ↓execI_len, ↓rdB_ld, kRd_ptr, kRd_tptr, kRd_tup, kRd_kif, kOpsW_bs, gt0, st0, gt1, st1, gt2, st2, gt3, st3, gt4, st4, gt5, st5, gt6, st6, gt7, st7, gt8, st8, -kWant_bool, -Int.not_le, -Int.not_lt, -decide_eq_true_eq, -decide_eq_false_iff_not, -List.getD_eq_getElem?_getD, -List.set_cons_succ, -List.set_cons_zero, -Bool.and_eq_true, -Bool.or_eq_true, -Bool.not_eq_eq_eq_not, -Bool.or_eq_false_iff, -Bool.and_eq_false_imp, -Bool.not_eq_true, -Bool.not_eq_false]
    by_cases k28 : op = 28
    · subst k28
      simp (contextual := true) (maxSteps := 10000000) (implicitDefEqProofs := false) [T32, c32_b0, c32_r1, c32_a1, c32_r2, c32_a2, c32_r3, c32_a3, bxF, bxI, gw.all, ga.all, gs.all, gr.all, gb.all, gA.all, ra, rs, kIadr_LS ga, kIadr_LS gs, callV_pu, q43, eq44, RtT_kif, RtT_some, kCond_kc, kc_kif, ↓kif_tr, ↓kif_fl, kif_tr, kif_fl, kif_same, ↓kif_not, ↓kif_or, ↓kifg_tr, ↓kifg_fl, ↓kifg_not, ↓kifg_or, ↓kifg_and, kifg_kif, kifB_t, kifB_f, kifB_ft, kifB_tt, kif_bool, kif_int, mergeL, mergeV, mergeS, mergeRs, kSeq_kif, kBlk_kif, kPost_kif, kNext_kif, kFin_kif, kReg_kif, kOps_kif, kO_kif, kG_kif, kDrw_kif, kW_kif, kOpsW_kif, kRet_kif, map_kif, bind_kif, kWant_t, kWant_f, kWant_kif, ↓execI_pick, kPick_bool, kPick_kif, ↓execI_iadr, kIadr_sl, ↓execI_idxs, kIdxs_str, ↓execI_len, ↓rdB_ld, kRd_ptr, kRd_tptr, kRd_tup, kRd_kif, kOpsW_bs, gt0, st0, gt1, st1, gt2, st2, gt3, st3, gt4, st4, gt5, st5, gt6, st6, gt7, st7, gt8, st8, -kWant_bool, -Int.not_le, -Int.not_lt, -decide_eq_true_eq, -decide_eq_false_iff_not, -List.getD_eq_getElem?_getD, -List.set_cons_succ, -List.set_cons_zero, -Bool.and_eq_true, -Bool.or_eq_true, -Bool.not_eq_eq_eq_not, -Bool.or_eq_false_iff, -Bool.and_eq_false_imp, -Bool.not_eq_true, -Bool.not_eq_false]
    have n1 : decide (op = 1) = false := by simp [k1]
    have n21 : decide (op = 21) = false := by simp [k21]
    have n22 : decide (op = 22) = false := by simp [k22]
    have n23 : decide (op = 23) = false := by simp [k23]
    have n24 : decide (op = 24) = false := by simp [k24]
    have n25 : decide (op = 25) = false := by simp [k25]
    have n26 : decide (op = 26) = false := by simp [k26]
    have n27 : decide (op = 27) = false := by simp [k27]
    have n28 : decide (op = 28) = false := by simp [k28]
    generalize hmm : (decide (25 ≤ op) && decide (op ≤ 28)) = mm
    cases mm
    · simp (contextual := true) (maxSteps := 10000000) (implicitDefEqProofs := false) [n1, n21, n22, n23, n24, n25, n26, n27, n28, T32, c32_b0, c32_r1, c32_a1, c32_r2, c32_a2, c32_r3, c32_a3, bxF, bxI, gw.all, ga.all, gs.all, gr.all, gb.all, gA.all, ra, rs, kIadr_LS ga, kIadr_LS gs, callV_pu, q43, eq44, RtT_kif, RtT_some, kCond_kc, kc_kif, ↓kif_tr, ↓kif_fl, kif_tr, kif_fl, kif_same, ↓kif_not, ↓kif_or, ↓kifg_tr, ↓kifg_fl, ↓kifg_not, ↓kifg_or, ↓kifg_and, kifg_kif, kifB_t, kifB_f, kifB_ft, kifB_tt, kif_bool, kif_int, mergeL, mergeV, mergeS, mergeRs, kSeq_kif, kBlk_kif, kPost_kif, kNext_kif, kFin_kif, kReg_kif, kOps_kif, kO_kif, kG_kif, kDrw_kif, kW_kif, kOpsW_kif, kRet_kif, map_kif, bind_kif, kWant_t, kWant_f, kWant_kif, ↓execI_pick, kPick_bool, kPick_kif, ↓execI_iadr, kIadr_sl, ↓execI_idxs, kIdxs_str, ↓execI_len, ↓rdB_ld, kRd_ptr, kRd_tptr, kRd_tup, kRd_kif, kOpsW_bs, gt0, st0, gt1, st1, gt2, st2, gt3, st3, gt4, st4, gt5, st5, gt6, st6, gt7, st7, gt8, st8, -kWant_bool, -Int.not_le, -Int.not_lt, -decide_eq_true_eq, -decide_eq_false_iff_not, -List.getD_eq_getElem?_getD, -List.set_cons_succ, -List.set_cons_zero, -Bool.and_eq_true, -Bool.or_eq_true, -Bool.not_eq_eq_eq_not, -Bool.or_eq_false_iff, -Bool.and_eq_false_imp, -Bool.not_eq_true, -Bool.not_eq_false]
    · simp at hmm; omega
  · exact hr.elim
theorem eq32 (K : Nat) (hK : BIG ≤ K) (nm : ByteArray) (w ar st rt bl : V) (h : OkF nm w ar st rt bl) (op de : Int) (aa : V) (nu me : Int) (ha : S22 [aa]) (h3 : lenV aa ≤ 3) (hin : ∀ j, j < lenV aa → inW w aa j) (hd : qb 31 (K + 3) [.int .i64 op] = true → 0 ≤ de ∧ de < lenV w) :
    callF tbl pu (K + 4) 32 [.agg [.str nm, w, ar, st, rt, bl], .agg [.int .i64 op, .int .i64 de, aa, .int .u64 nu, .int .i64 me]] [] = some (.bool (qb 32 (K + 4) [.agg [.str nm, w, ar, st, rt, bl], .agg [.int .i64 op, .int .i64 de, aa, .int .u64 nu, .int .i64 me]]), [], qd 32 (K + 4) [.agg [.str nm, w, ar, st, rt, bl], .agg [.int .i64 op, .int .i64 de, aa, .int .u64 nu, .int .i64 me]]) := rtT_eq (tot32 K hK nm w ar st rt bl h op de aa nu me ha h3 hin hd)
end Go.AM.Ytegibclhopenmaa
