/- bounds.Check and jacquardref31.Accepts. -/
import Derived.Test.YtdgineiemjplhaaCrE
set_option linter.unusedVariables false
set_option linter.unusedSimpArgs false
namespace Go.AM.Ytdgineiemjplhaa
open Go Go.AM
set_option maxRecDepth 100000
set_option maxHeartbeats 0
attribute [local congr] kif_congr
structure Env (f : Fl) (b : Bd) : Prop where
  hf : f.Ok
  hb : b.Ok
  hA : f.A.length ≤ 90
  hR : f.R.length ≤ 6
  hN : f.N.length ≤ 20
  hC : b.C.length ≤ 30
  hs : ∀ a ∈ f.A, ¬ 60 < a.lat ∧ ¬ 20 < a.di
theorem arc_mem {A : List Arc} {i : Nat} (h : i < A.length) : arcAt A i ∈ A := by
  have : A[i]? = some (arcAt A i) := by simp [arcAt, h]
  exact List.mem_of_getElem? this
theorem Env.okA {f : Fl} {b : Bd} (h : Env f b) (hv : validP f) : okA f.A (f.ins + f.par + 2) := by
  intro i hi
  have hm := arc_mem hi
  have hs := h.hs _ hm
  obtain ⟨h1, h2, h3, h4⟩ := hv.2.1 _ hm
  have b1 := btw_iff.1 h1
  have b2 := btw_iff.1 h2
  have b3 := btw_iff.1 h3
  have b4 := btw_iff.1 h4
  exact ⟨⟨b1.1, by omega, b2.1, by omega⟩, b3.1, by omega, b4.1, by omega⟩
theorem head_bd {f : Fl} (hv : validP f) : 0 ≤ f.ins ∧ f.ins ≤ 4096 ∧ 0 ≤ f.par ∧ f.par ≤ 4094 ∧ (f.N.length : Int) = f.ins := by
  obtain ⟨⟨h1, h2, h3⟩, -⟩ := hv
  have b1 := btw_iff.1 h1
  have b2 := btw_iff.1 h2
  exact ⟨b1.1, b1.2, b2.1, b2.2, h3⟩
theorem rs_bd {f : Fl} (hv : validP f) {i : Nat} (h : i < f.R.length) : 1 ≤ (rsAt f.R i).ct ∧ (rsAt f.R i).ct ≤ 1024 := by
  have hm : rsAt f.R i ∈ f.R := List.mem_of_getElem? (show f.R[i]? = some (rsAt f.R i) by simp [rsAt, h])
  exact btw_iff.1 (hv.2.2.1 _ hm).2
theorem bu_bd {f : Fl} (hv : validP f) : ∀ x ∈ f.N, 0 ≤ x.bu ∧ x.bu ≤ 256 := fun x hx => by
  rcases hv.2.2.2.1 x hx with ⟨-, h⟩ | ⟨-, h⟩
  · omega
  · have := btw_iff.1 h; omega
theorem mul_bd {a c : Int} (h1 : 0 ≤ a) (h2 : a ≤ 256) (h3 : 0 ≤ c) (h4 : c ≤ 1024) : 0 ≤ a * c ∧ a * c ≤ 262144 := by
  refine ⟨Int.mul_nonneg h1 h3, ?_⟩
  calc a * c ≤ 256 * c := Int.mul_le_mul_of_nonneg_right h2 h3
    _ ≤ 256 * 1024 := Int.mul_le_mul_of_nonneg_left h4 (by decide)
theorem kRet_two {H : Heap} {fs : List (Nat × Nat)} {L n : Nat} {e1 e2 : List (List V)} {d : Bool} : kRet H fs (some (.tup [.sl 1 0 L 0 n, .sl 1 1 L 0 n], [⟨1, e1, 0, false, true⟩, ⟨1, e2, 0, false, true⟩], d)) = some (.tup [.sl 1 H.length L 0 n, .sl 1 (H.length + 1) L 0 n], .new [⟨1, e1, 0, false, true⟩, ⟨1, e2, 0, false, true⟩]) := by
  simp [kRet, V.ren, renL, backG, renH, Blk.ren, nt3, nt2, nt1, flatH, V.flat]
theorem tot12 (K : Nat) (hK : 20000 ≤ K) (f : Fl) (b : Bd) (h : Env f b) : RtB ((validP f ∧ f.loop = true) ∧ AccP f b) (callF tbl pu (K + 4) 12 [f.v, b.v] []) := by
  unfold Fl.v Bd.v
  rw [callF_eq tbl12, c12]
  have ga := Sl.ls h.hf.a
  have gr := Sl.ls h.hf.r
  have gn := Sl.ls h.hf.n
  have gc := Sl.ls h.hb
  have hlr := lenR h.hf
  obtain ⟨n20, d20, q20, h20⟩ := t20 (K + 3) f h.hf h.hA h.hR h.hN (by omega)
  unfold Fl.v at q20
  by_cases hv : validP f ∧ f.loop = true
  case neg =>
    have e0 : decide (n20 = 0) = false := by
      have : n20 ≠ 0 := fun e => hv (h20.1 e)
      simp [this]
    simp (contextual := true) (maxSteps := 10000000) (implicitDefEqProofs := false) [callV_pu, q20, e0, ga.all, gr.all, gn.all, gc.all, RtB_some, kCond_kc, kc_kif, ↓kif_tr, ↓kif_fl, kif_tr, kif_fl, kif_same, ↓kif_not, ↓kif_or, ↓kifg_tr, ↓kifg_fl, ↓kifg_not, ↓kifg_or, ↓kifg_and, kifg_kif, kifB_t, kifB_f, kifB_ft, kifB_tt, kif_bool, kif_int, mergeL, mergeV, mergeS, mergeRs, kSeq_kif, kBlk_kif, kPost_kif, kNext_kif, kFin_kif, kReg_kif, kOps_kif, kO_kif, kG_kif, kDrw_kif, kW_kif, kOpsW_kif, kRet_kif, map_kif, bind_kif, kWant_t, kWant_f, kWant_kif, ↓execI_pick, kPick_bool, kPick_kif, ↓execI_iadr, kIadr_sl, ↓execI_idxs, kIdxs_str, ↓execI_len, ↓rdB_ld, kRd_ptr, kRd_tptr, kRd_tup, kRd_kif, kOpsW_bs, gt0, st0, gt1, st1, gt2, st2, gt3, st3, gt4, st4, gt5, st5, gt6, st6, gt7, st7, gt8, st8, -kWant_bool, -Int.not_le, -Int.not_lt, -decide_eq_true_eq, -decide_eq_false_iff_not, -List.getD_eq_getElem?_getD, -List.set_cons_succ, -List.set_cons_zero, -Bool.and_eq_true, -Bool.or_eq_true, -Bool.not_eq_eq_eq_not, -Bool.or_eq_false_iff, -Bool.and_eq_false_imp, -Bool.not_eq_true, -Bool.not_eq_false]
    exact fun h1 h2 => absurd ⟨h1, h2⟩ hv
  obtain rfl := h20.2 hv
  obtain ⟨hv1, hl⟩ := hv
  by_cases c1 : b.ii < 1
  · have e1 : decide (b.ii < 1) = true := by simp [c1]
    simp (contextual := true) (maxSteps := 10000000) (implicitDefEqProofs := false) [callV_pu, q20, e1, ga.all, gr.all, gn.all, gc.all, RtB_some, kCond_kc, kc_kif, ↓kif_tr, ↓kif_fl, kif_tr, kif_fl, kif_same, ↓kif_not, ↓kif_or, ↓kifg_tr, ↓kifg_fl, ↓kifg_not, ↓kifg_or, ↓kifg_and, kifg_kif, kifB_t, kifB_f, kifB_ft, kifB_tt, kif_bool, kif_int, mergeL, mergeV, mergeS, mergeRs, kSeq_kif, kBlk_kif, kPost_kif, kNext_kif, kFin_kif, kReg_kif, kOps_kif, kO_kif, kG_kif, kDrw_kif, kW_kif, kOpsW_kif, kRet_kif, map_kif, bind_kif, kWant_t, kWant_f, kWant_kif, ↓execI_pick, kPick_bool, kPick_kif, ↓execI_iadr, kIadr_sl, ↓execI_idxs, kIdxs_str, ↓execI_len, ↓rdB_ld, kRd_ptr, kRd_tptr, kRd_tup, kRd_kif, kOpsW_bs, gt0, st0, gt1, st1, gt2, st2, gt3, st3, gt4, st4, gt5, st5, gt6, st6, gt7, st7, gt8, st8, -kWant_bool, -Int.not_le, -Int.not_lt, -decide_eq_true_eq, -decide_eq_false_iff_not, -List.getD_eq_getElem?_getD, -List.set_cons_succ, -List.set_cons_zero, -Bool.and_eq_true, -Bool.or_eq_true, -Bool.not_eq_eq_eq_not, -Bool.or_eq_false_iff, -Bool.and_eq_false_imp, -Bool.not_eq_true, -Bool.not_eq_false]
    simp [AccP]; omega
  have e1 : decide (b.ii < 1) = false := by simp; omega
  by_cases c2 : 256 < b.ii
  · have e2 : decide (256 < b.ii) = true := by simp [c2]
    simp (contextual := true) (maxSteps := 10000000) (implicitDefEqProofs := false) [callV_pu, q20, e1, e2, ga.all, gr.all, gn.all, gc.all, RtB_some, kCond_kc, kc_kif, ↓kif_tr, ↓kif_fl, kif_tr, kif_fl, kif_same, ↓kif_not, ↓kif_or, ↓kifg_tr, ↓kifg_fl, ↓kifg_not, ↓kifg_or, ↓kifg_and, kifg_kif, kifB_t, kifB_f, kifB_ft, kifB_tt, kif_bool, kif_int, mergeL, mergeV, mergeS, mergeRs, kSeq_kif, kBlk_kif, kPost_kif, kNext_kif, kFin_kif, kReg_kif, kOps_kif, kO_kif, kG_kif, kDrw_kif, kW_kif, kOpsW_kif, kRet_kif, map_kif, bind_kif, kWant_t, kWant_f, kWant_kif, ↓execI_pick, kPick_bool, kPick_kif, ↓execI_iadr, kIadr_sl, ↓execI_idxs, kIdxs_str, ↓execI_len, ↓rdB_ld, kRd_ptr, kRd_tptr, kRd_tup, kRd_kif, kOpsW_bs, gt0, st0, gt1, st1, gt2, st2, gt3, st3, gt4, st4, gt5, st5, gt6, st6, gt7, st7, gt8, st8, -kWant_bool, -Int.not_le, -Int.not_lt, -decide_eq_true_eq, -decide_eq_false_iff_not, -List.getD_eq_getElem?_getD, -List.set_cons_succ, -List.set_cons_zero, -Bool.and_eq_true, -Bool.or_eq_true, -Bool.not_eq_eq_eq_not, -Bool.or_eq_false_iff, -Bool.and_eq_false_imp, -Bool.not_eq_true, -Bool.not_eq_false]
    simp [AccP]; omega
  have e2 : decide (256 < b.ii) = false := by simp; omega
  have hd := head_bd hv1
  have w1 : IntKind.i64.wrap (b.ii - 1) = b.ii - 1 := wrap64 (by omega) (by omega)
  have hthere : ((decide (0 ≤ b.rs) && decide (b.rs < f.R.length)) = true) = thereP f b := by simp [thereP]
  have hAcc : (validP f ∧ f.loop = true) ∧ AccP f b ↔ ((b.kd = 1 ∧ b.ii = 1) ∨ (b.kd = 2 ∧ 2 ≤ b.ii ∧ PosP f.A b.C (b.ii - 1)) ∨ (b.kd = 3 ∧ thereP f b ∧ cntP f b) ∨ (b.kd = 4 ∧ thereP f b ∧ anyB f b)) :=
    ⟨fun h => h.2.2.2, fun h => ⟨⟨hv1, hl⟩, by omega, by omega, h⟩⟩
  rw [show ((validP f ∧ f.loop = true) ∧ AccP f b) = _ from propext hAcc]
  by_cases k1 : b.kd = 1
  · have f1 : decide (b.kd = 1) = true := by simp [k1]
    have hr : ((b.kd = 1 ∧ b.ii = 1) ∨ (b.kd = 2 ∧ 2 ≤ b.ii ∧ PosP f.A b.C (b.ii - 1)) ∨ (b.kd = 3 ∧ thereP f b ∧ cntP f b) ∨ (b.kd = 4 ∧ thereP f b ∧ anyB f b)) = (b.ii = 1) := propext ⟨fun h => by omega, fun h => .inl ⟨k1, h⟩⟩
    rw [hr]
    simp (contextual := true) (maxSteps := 10000000) (implicitDefEqProofs := false) [callV_pu, q20, e1, e2, f1, hlr, ga.all, gr.all, gn.all, gc.all, RtB_kif, RtB_some, kCond_kc, kc_kif, ↓kif_tr, ↓kif_fl, kif_tr, kif_fl, kif_same, ↓kif_not, ↓kif_or, ↓kifg_tr, ↓kifg_fl, ↓kifg_not, ↓kifg_or, ↓kifg_and, kifg_kif, kifB_t, kifB_f, kifB_ft, kifB_tt, kif_bool, kif_int, mergeL, mergeV, mergeS, mergeRs, kSeq_kif, kBlk_kif, kPost_kif, kNext_kif, kFin_kif, kReg_kif, kOps_kif, kO_kif, kG_kif, kDrw_kif, kW_kif, kOpsW_kif, kRet_kif, map_kif, bind_kif, kWant_t, kWant_f, kWant_kif, ↓execI_pick, kPick_bool, kPick_kif, ↓execI_iadr, kIadr_sl, ↓execI_idxs, kIdxs_str, ↓execI_len, ↓rdB_ld, kRd_ptr, kRd_tptr, kRd_tup, kRd_kif, kOpsW_bs, gt0, st0, gt1, st1, gt2, st2, gt3, st3, gt4, st4, gt5, st5, gt6, st6, gt7, st7, gt8, st8, -kWant_bool, -Int.not_le, -Int.not_lt, -decide_eq_true_eq, -decide_eq_false_iff_not, -List.getD_eq_getElem?_getD, -List.set_cons_succ, -List.set_cons_zero, -Bool.and_eq_true, -Bool.or_eq_true, -Bool.not_eq_eq_eq_not, -Bool.or_eq_false_iff, -Bool.and_eq_false_imp, -Bool.not_eq_true, -Bool.not_eq_false]
    simp
  have f1 : decide (b.kd = 1) = false := by simp [k1]
  by_cases k2 : b.kd = 2
  · have f2 : decide (b.kd = 2) = true := by simp [k2]
    have hr : ((b.kd = 1 ∧ b.ii = 1) ∨ (b.kd = 2 ∧ 2 ≤ b.ii ∧ PosP f.A b.C (b.ii - 1)) ∨ (b.kd = 3 ∧ thereP f b ∧ cntP f b) ∨ (b.kd = 4 ∧ thereP f b ∧ anyB f b)) = (2 ≤ b.ii ∧ PosP f.A b.C (b.ii - 1)) := propext ⟨fun h => by rcases h with h | h | h | h <;> first | exact h.2 | omega, fun h => .inr (.inl ⟨k2, h⟩)⟩
    rw [hr]
    have q22 := t22 (K + 2) f h.hf ⟨by omega, by omega, by omega, by omega⟩
    unfold Fl.v at q22
    obtain ⟨w, bb, d21, q21, hb21⟩ := tot21 K f h.hf b h.hb (f.ins + f.par + 2) (b.ii - 1) h.hA h.hC ⟨by omega, by omega⟩ ⟨by omega, by omega⟩ (h.okA hv1) (by omega)
    rw [← hb21]
    simp (contextual := true) (maxSteps := 10000000) (implicitDefEqProofs := false) [c12_r0, c12_a0, callV_pu, q20, q21, q22, w1, e1, e2, f1, f2, hlr, ga.all, gr.all, gn.all, gc.all, RtB_kif, RtB_some, kCond_kc, kc_kif, ↓kif_tr, ↓kif_fl, kif_tr, kif_fl, kif_same, ↓kif_not, ↓kif_or, ↓kifg_tr, ↓kifg_fl, ↓kifg_not, ↓kifg_or, ↓kifg_and, kifg_kif, kifB_t, kifB_f, kifB_ft, kifB_tt, kif_bool, kif_int, mergeL, mergeV, mergeS, mergeRs, kSeq_kif, kBlk_kif, kPost_kif, kNext_kif, kFin_kif, kReg_kif, kOps_kif, kO_kif, kG_kif, kDrw_kif, kW_kif, kOpsW_kif, kRet_kif, map_kif, bind_kif, kWant_t, kWant_f, kWant_kif, ↓execI_pick, kPick_bool, kPick_kif, ↓execI_iadr, kIadr_sl, ↓execI_idxs, kIdxs_str, ↓execI_len, ↓rdB_ld, kRd_ptr, kRd_tptr, kRd_tup, kRd_kif, kOpsW_bs, gt0, st0, gt1, st1, gt2, st2, gt3, st3, gt4, st4, gt5, st5, gt6, st6, gt7, st7, gt8, st8, -kWant_bool, -Int.not_le, -Int.not_lt, -decide_eq_true_eq, -decide_eq_false_iff_not, -List.getD_eq_getElem?_getD, -List.set_cons_succ, -List.set_cons_zero, -Bool.and_eq_true, -Bool.or_eq_true, -Bool.not_eq_eq_eq_not, -Bool.or_eq_false_iff, -Bool.and_eq_false_imp, -Bool.not_eq_true, -Bool.not_eq_false]
    simp
  have f2 : decide (b.kd = 2) = false := by simp [k2]
  by_cases t1 : thereP f b
  case neg =>
    have hr : ((b.kd = 1 ∧ b.ii = 1) ∨ (b.kd = 2 ∧ 2 ≤ b.ii ∧ PosP f.A b.C (b.ii - 1)) ∨ (b.kd = 3 ∧ thereP f b ∧ cntP f b) ∨ (b.kd = 4 ∧ thereP f b ∧ anyB f b)) = False := propext ⟨fun h => by rcases h with h | h | h | h <;> first | omega | exact t1 h.2.1, False.elim⟩
    rw [hr]
    have q23 := tot23 (K + 2) f h.hf h.hR h.hN hv1.2.2.2.1 (by omega)
    obtain ⟨d23, q23⟩ := q23
    unfold Fl.v at q23
    by_cases t2 : 0 ≤ b.rs
    · have g1 : decide (0 ≤ b.rs) = true := by simp [t2]
      have g2 : decide (b.rs < f.R.length) = false := by unfold thereP at t1; simp; omega
      simp (contextual := true) (maxSteps := 10000000) (implicitDefEqProofs := false) [callV_pu, q20, q23, bxU, kRet_two, c12_r1, c12_a1, e1, e2, f1, f2, g1, g2, hlr, ga.all, gr.all, gn.all, gc.all, RtB_kif, RtB_some, kCond_kc, kc_kif, ↓kif_tr, ↓kif_fl, kif_tr, kif_fl, kif_same, ↓kif_not, ↓kif_or, ↓kifg_tr, ↓kifg_fl, ↓kifg_not, ↓kifg_or, ↓kifg_and, kifg_kif, kifB_t, kifB_f, kifB_ft, kifB_tt, kif_bool, kif_int, mergeL, mergeV, mergeS, mergeRs, kSeq_kif, kBlk_kif, kPost_kif, kNext_kif, kFin_kif, kReg_kif, kOps_kif, kO_kif, kG_kif, kDrw_kif, kW_kif, kOpsW_kif, kRet_kif, map_kif, bind_kif, kWant_t, kWant_f, kWant_kif, ↓execI_pick, kPick_bool, kPick_kif, ↓execI_iadr, kIadr_sl, ↓execI_idxs, kIdxs_str, ↓execI_len, ↓rdB_ld, kRd_ptr, kRd_tptr, kRd_tup, kRd_kif, kOpsW_bs, gt0, st0, gt1, st1, gt2, st2, gt3, st3, gt4, st4, gt5, st5, gt6, st6, gt7, st7, gt8, st8, -kWant_bool, -Int.not_le, -Int.not_lt, -decide_eq_true_eq, -decide_eq_false_iff_not, -List.getD_eq_getElem?_getD, -List.set_cons_succ, -List.set_cons_zero, -Bool.and_eq_true, -Bool.or_eq_true, -Bool.not_eq_eq_eq_not, -Bool.or_eq_false_iff, -Bool.and_eq_false_imp, -Bool.not_eq_true, -Bool.not_eq_false]
    · have g1 : decide (0 ≤ b.rs) = false := by simp; omega
      simp (contextual := true) (maxSteps := 10000000) (implicitDefEqProofs := false) [callV_pu, q20, q23, bxU, kRet_two, c12_r1, c12_a1, e1, e2, f1, f2, g1, hlr, ga.all, gr.all, gn.all, gc.all, RtB_kif, RtB_some, kCond_kc, kc_kif, ↓kif_tr, ↓kif_fl, kif_tr, kif_fl, kif_same, ↓kif_not, ↓kif_or, ↓kifg_tr, ↓kifg_fl, ↓kifg_not, ↓kifg_or, ↓kifg_and, kifg_kif, kifB_t, kifB_f, kifB_ft, kifB_tt, kif_bool, kif_int, mergeL, mergeV, mergeS, mergeRs, kSeq_kif, kBlk_kif, kPost_kif, kNext_kif, kFin_kif, kReg_kif, kOps_kif, kO_kif, kG_kif, kDrw_kif, kW_kif, kOpsW_kif, kRet_kif, map_kif, bind_kif, kWant_t, kWant_f, kWant_kif, ↓execI_pick, kPick_bool, kPick_kif, ↓execI_iadr, kIadr_sl, ↓execI_idxs, kIdxs_str, ↓execI_len, ↓rdB_ld, kRd_ptr, kRd_tptr, kRd_tup, kRd_kif, kOpsW_bs, gt0, st0, gt1, st1, gt2, st2, gt3, st3, gt4, st4, gt5, st5, gt6, st6, gt7, st7, gt8, st8, -kWant_bool, -Int.not_le, -Int.not_lt, -decide_eq_true_eq, -decide_eq_false_iff_not, -List.getD_eq_getElem?_getD, -List.set_cons_succ, -List.set_cons_zero, -Bool.and_eq_true, -Bool.or_eq_true, -Bool.not_eq_eq_eq_not, -Bool.or_eq_false_iff, -Bool.and_eq_false_imp, -Bool.not_eq_true, -Bool.not_eq_false]
  have hrl : b.rs.toNat < f.R.length := by have := t1.1; have := t1.2; omega
  have hrr := rowR h.hf hrl
  have hrs := rs_bd hv1 hrl
  have g1 : decide (0 ≤ b.rs) = true := by have := t1.1; simp; omega
  have g2 : decide (b.rs < f.R.length) = true := by have := t1.2; simp; omega
  have g3 : decide (b.rs < 0) = false := by have := t1.1; simp; omega
  have g4 : decide ((f.R.length : Int) ≤ b.rs) = false := by have := t1.2; simp; omega
  by_cases k3 : b.kd = 3
  · have f3 : decide (b.kd = 3) = true := by simp [k3]
    have hr : ((b.kd = 1 ∧ b.ii = 1) ∨ (b.kd = 2 ∧ 2 ≤ b.ii ∧ PosP f.A b.C (b.ii - 1)) ∨ (b.kd = 3 ∧ thereP f b ∧ cntP f b) ∨ (b.kd = 4 ∧ thereP f b ∧ anyB f b)) = cntP f b := propext ⟨fun h => by rcases h with h | h | h | h <;> first | exact h.2.2 | omega, fun h => .inr (.inr (.inl ⟨k3, t1, h⟩))⟩
    rw [hr]
    have q23 := tot23 (K + 2) f h.hf h.hR h.hN hv1.2.2.2.1 (by omega)
    obtain ⟨d23, q23⟩ := q23
    unfold Fl.v at q23
    have hg := rwU_get (g := sumF f.N f.N.length) hrl
    have hl0 := rwU_len (sumF f.N f.N.length) f.R.length
    have hsum : sumF f.N f.N.length b.rs.toNat = sumN f.N b.rs f.N.length := by unfold sumF; rw [Int.toNat_of_nonneg t1.1]
    rw [hsum] at hg
    have hm := mul_bd (a := b.ii - 1) (c := (rsAt f.R b.rs.toNat).ct) (by omega) (by omega) (by omega) (by omega)
    have w2 : IntKind.i64.wrap ((b.ii - 1) * (rsAt f.R b.rs.toNat).ct) = (b.ii - 1) * (rsAt f.R b.rs.toNat).ct := wrap64 (by omega) (by omega)
    unfold bxU at q23
    generalize rwU (sumF f.N f.N.length) f.R.length = es1 at *
    generalize rwU (lonF f.N f.N.length) f.R.length = es2 at *
    simp (contextual := true) (maxSteps := 10000000) (implicitDefEqProofs := false) [callV_pu, q20, q23, kRet_two, c12_r1, c12_a1, e1, e2, f1, f2, f3, g1, g2, g3, g4, hlr, hrr, hg, hl0, -getElem?_pos, List.getElem?_cons_zero, List.getElem?_cons_succ, w1, w2, ga.all, gr.all, gn.all, gc.all, kIadr_LS gr, RtB_kif, RtB_some, kCond_kc, kc_kif, ↓kif_tr, ↓kif_fl, kif_tr, kif_fl, kif_same, ↓kif_not, ↓kif_or, ↓kifg_tr, ↓kifg_fl, ↓kifg_not, ↓kifg_or, ↓kifg_and, kifg_kif, kifB_t, kifB_f, kifB_ft, kifB_tt, kif_bool, kif_int, mergeL, mergeV, mergeS, mergeRs, kSeq_kif, kBlk_kif, kPost_kif, kNext_kif, kFin_kif, kReg_kif, kOps_kif, kO_kif, kG_kif, kDrw_kif, kW_kif, kOpsW_kif, kRet_kif, map_kif, bind_kif, kWant_t, kWant_f, kWant_kif, ↓execI_pick, kPick_bool, kPick_kif, ↓execI_iadr, kIadr_sl, ↓execI_idxs, kIdxs_str, ↓execI_len, ↓rdB_ld, kRd_ptr, kRd_tptr, kRd_tup, kRd_kif, kOpsW_bs, gt0, st0, gt1, st1, gt2, st2, gt3, st3, gt4, st4, gt5, st5, gt6, st6, gt7, st7, gt8, st8, -kWant_bool, -Int.not_le, -Int.not_lt, -decide_eq_true_eq, -decide_eq_false_iff_not, -List.getD_eq_getElem?_getD, -List.set_cons_succ, -List.set_cons_zero, -Bool.and_eq_true, -Bool.or_eq_true, -Bool.not_eq_eq_eq_not, -Bool.or_eq_false_iff, -Bool.and_eq_false_imp, -Bool.not_eq_true, -Bool.not_eq_false]
    simp [cntP]
  have f3 : decide (b.kd = 3) = false := by simp [k3]
  by_cases k4 : b.kd = 4
  · have f4 : decide (b.kd = 4) = true := by simp [k4]
    have hr : ((b.kd = 1 ∧ b.ii = 1) ∨ (b.kd = 2 ∧ 2 ≤ b.ii ∧ PosP f.A b.C (b.ii - 1)) ∨ (b.kd = 3 ∧ thereP f b ∧ cntP f b) ∨ (b.kd = 4 ∧ thereP f b ∧ anyB f b)) = anyB f b := propext ⟨fun h => by rcases h with h | h | h | h <;> first | exact h.2.2 | omega, fun h => .inr (.inr (.inr ⟨k4, t1, h⟩))⟩
    rw [hr]
    obtain ⟨c, q24, hc⟩ := call24 K f h.hf b h.hb h.hN (by omega) (bxF f.ins f.par f.loop f.va f.vr f.vn)
    rw [← hc]
    unfold bxF bxB at q24
    simp only [List.all_cons, List.all_nil, flat_int, flat_bool, Bool.true_and, Bool.and_true] at q24
    simp (contextual := true) (maxSteps := 10000000) (implicitDefEqProofs := false) [callV_pu, q20, q24, e1, e2, f1, f2, f3, f4, g1, g2, hlr, ga.all, gr.all, gn.all, gc.all, RtB_kif, RtB_some, kCond_kc, kc_kif, ↓kif_tr, ↓kif_fl, kif_tr, kif_fl, kif_same, ↓kif_not, ↓kif_or, ↓kifg_tr, ↓kifg_fl, ↓kifg_not, ↓kifg_or, ↓kifg_and, kifg_kif, kifB_t, kifB_f, kifB_ft, kifB_tt, kif_bool, kif_int, mergeL, mergeV, mergeS, mergeRs, kSeq_kif, kBlk_kif, kPost_kif, kNext_kif, kFin_kif, kReg_kif, kOps_kif, kO_kif, kG_kif, kDrw_kif, kW_kif, kOpsW_kif, kRet_kif, map_kif, bind_kif, kWant_t, kWant_f, kWant_kif, ↓execI_pick, kPick_bool, kPick_kif, ↓execI_iadr, kIadr_sl, ↓execI_idxs, kIdxs_str, ↓execI_len, ↓rdB_ld, kRd_ptr, kRd_tptr, kRd_tup, kRd_kif, kOpsW_bs, gt0, st0, gt1, st1, gt2, st2, gt3, st3, gt4, st4, gt5, st5, gt6, st6, gt7, st7, gt8, st8, -kWant_bool, -Int.not_le, -Int.not_lt, -decide_eq_true_eq, -decide_eq_false_iff_not, -List.getD_eq_getElem?_getD, -List.set_cons_succ, -List.set_cons_zero, -Bool.and_eq_true, -Bool.or_eq_true, -Bool.not_eq_eq_eq_not, -Bool.or_eq_false_iff, -Bool.and_eq_false_imp, -Bool.not_eq_true, -Bool.not_eq_false]
  have f4 : decide (b.kd = 4) = false := by simp [k4]
  have hr : ((b.kd = 1 ∧ b.ii = 1) ∨ (b.kd = 2 ∧ 2 ≤ b.ii ∧ PosP f.A b.C (b.ii - 1)) ∨ (b.kd = 3 ∧ thereP f b ∧ cntP f b) ∨ (b.kd = 4 ∧ thereP f b ∧ anyB f b)) = False := propext ⟨fun h => by omega, False.elim⟩
  rw [hr]
  simp (contextual := true) (maxSteps := 10000000) (implicitDefEqProofs := false) [callV_pu, q20, e1, e2, f1, f2, f3, f4, g1, g2, hlr, ga.all, gr.all, gn.all, gc.all, RtB_kif, RtB_some, kCond_kc, kc_kif, ↓kif_tr, ↓kif_fl, kif_tr, kif_fl, kif_same, ↓kif_not, ↓kif_or, ↓kifg_tr, ↓kifg_fl, ↓kifg_not, ↓kifg_or, ↓kifg_and, kifg_kif, kifB_t, kifB_f, kifB_ft, kifB_tt, kif_bool, kif_int, mergeL, mergeV, mergeS, mergeRs, kSeq_kif, kBlk_kif, kPost_kif, kNext_kif, kFin_kif, kReg_kif, kOps_kif, kO_kif, kG_kif, kDrw_kif, kW_kif, kOpsW_kif, kRet_kif, map_kif, bind_kif, kWant_t, kWant_f, kWant_kif, ↓execI_pick, kPick_bool, kPick_kif, ↓execI_iadr, kIadr_sl, ↓execI_idxs, kIdxs_str, ↓execI_len, ↓rdB_ld, kRd_ptr, kRd_tptr, kRd_tup, kRd_kif, kOpsW_bs, gt0, st0, gt1, st1, gt2, st2, gt3, st3, gt4, st4, gt5, st5, gt6, st6, gt7, st7, gt8, st8, -kWant_bool, -Int.not_le, -Int.not_lt, -decide_eq_true_eq, -decide_eq_false_iff_not, -List.getD_eq_getElem?_getD, -List.set_cons_succ, -List.set_cons_zero, -Bool.and_eq_true, -Bool.or_eq_true, -Bool.not_eq_eq_eq_not, -Bool.or_eq_false_iff, -Bool.and_eq_false_imp, -Bool.not_eq_true, -Bool.not_eq_false]
theorem tot8 (K : Nat) (hK : 20000 ≤ K) (f : Fl) (b : Bd) (h : Env f b) (hv1 : validP f) : RtB (AccP f b) (callF tbl pu (K + 4) 8 [f.v, b.v] []) := by
  unfold Fl.v Bd.v
  rw [callF_eq tbl8, c8]
  have ga := Sl.ls h.hf.a
  have gr := Sl.ls h.hf.r
  have gn := Sl.ls h.hf.n
  have gc := Sl.ls h.hb
  have hlr := lenR h.hf
  by_cases c1 : b.ii < 1
  · have e1 : decide (b.ii < 1) = true := by simp [c1]
    simp (contextual := true) (maxSteps := 10000000) (implicitDefEqProofs := false) [e1, ga.all, gr.all, gn.all, gc.all, RtB_some, kCond_kc, kc_kif, ↓kif_tr, ↓kif_fl, kif_tr, kif_fl, kif_same, ↓kif_not, ↓kif_or, ↓kifg_tr, ↓kifg_fl, ↓kifg_not, ↓kifg_or, ↓kifg_and, kifg_kif, kifB_t, kifB_f, kifB_ft, kifB_tt, kif_bool, kif_int, mergeL, mergeV, mergeS, mergeRs, kSeq_kif, kBlk_kif, kPost_kif, kNext_kif, kFin_kif, kReg_kif, kOps_kif, kO_kif, kG_kif, kDrw_kif, kW_kif, kOpsW_kif, kRet_kif, map_kif, bind_kif, kWant_t, kWant_f, kWant_kif, ↓execI_pick, kPick_bool, kPick_kif, ↓execI_iadr, kIadr_sl, ↓execI_idxs, kIdxs_str, ↓execI_len, ↓rdB_ld, kRd_ptr, kRd_tptr, kRd_tup, kRd_kif, kOpsW_bs, gt0, st0, gt1, st1, gt2, st2, gt3, st3, gt4, st4, gt5, st5, gt6, st6, gt7, st7, gt8, st8, -kWant_bool, -Int.not_le, -Int.not_lt, -decide_eq_true_eq, -decide_eq_false_iff_not, -List.getD_eq_getElem?_getD, -List.set_cons_succ, -List.set_cons_zero, -Bool.and_eq_true, -Bool.or_eq_true, -Bool.not_eq_eq_eq_not, -Bool.or_eq_false_iff, -Bool.and_eq_false_imp, -Bool.not_eq_true, -Bool.not_eq_false]
    simp [AccP]; omega
  have e1 : decide (b.ii < 1) = false := by simp; omega
  by_cases c2 : 256 < b.ii
  · have e2 : decide (256 < b.ii) = true := by simp [c2]
    simp (contextual := true) (maxSteps := 10000000) (implicitDefEqProofs := false) [e1, e2, ga.all, gr.all, gn.all, gc.all, RtB_some, kCond_kc, kc_kif, ↓kif_tr, ↓kif_fl, kif_tr, kif_fl, kif_same, ↓kif_not, ↓kif_or, ↓kifg_tr, ↓kifg_fl, ↓kifg_not, ↓kifg_or, ↓kifg_and, kifg_kif, kifB_t, kifB_f, kifB_ft, kifB_tt, kif_bool, kif_int, mergeL, mergeV, mergeS, mergeRs, kSeq_kif, kBlk_kif, kPost_kif, kNext_kif, kFin_kif, kReg_kif, kOps_kif, kO_kif, kG_kif, kDrw_kif, kW_kif, kOpsW_kif, kRet_kif, map_kif, bind_kif, kWant_t, kWant_f, kWant_kif, ↓execI_pick, kPick_bool, kPick_kif, ↓execI_iadr, kIadr_sl, ↓execI_idxs, kIdxs_str, ↓execI_len, ↓rdB_ld, kRd_ptr, kRd_tptr, kRd_tup, kRd_kif, kOpsW_bs, gt0, st0, gt1, st1, gt2, st2, gt3, st3, gt4, st4, gt5, st5, gt6, st6, gt7, st7, gt8, st8, -kWant_bool, -Int.not_le, -Int.not_lt, -decide_eq_true_eq, -decide_eq_false_iff_not, -List.getD_eq_getElem?_getD, -List.set_cons_succ, -List.set_cons_zero, -Bool.and_eq_true, -Bool.or_eq_true, -Bool.not_eq_eq_eq_not, -Bool.or_eq_false_iff, -Bool.and_eq_false_imp, -Bool.not_eq_true, -Bool.not_eq_false]
    simp [AccP]; omega
  have e2 : decide (256 < b.ii) = false := by simp; omega
  have hd := head_bd hv1
  have w1 : IntKind.i64.wrap (b.ii - 1) = b.ii - 1 := wrap64 (by omega) (by omega)
  have hAcc : AccP f b ↔ ((b.kd = 1 ∧ b.ii = 1) ∨ (b.kd = 2 ∧ 2 ≤ b.ii ∧ PosP f.A b.C (b.ii - 1)) ∨ (b.kd = 3 ∧ thereP f b ∧ cntP f b) ∨ (b.kd = 4 ∧ thereP f b ∧ anyB f b)) :=
    ⟨fun h => h.2.2, fun h => ⟨by omega, by omega, h⟩⟩
  rw [show AccP f b = _ from propext hAcc]
  by_cases k1 : b.kd = 1
  · have f1 : decide (b.kd = 1) = true := by simp [k1]
    have hr : ((b.kd = 1 ∧ b.ii = 1) ∨ (b.kd = 2 ∧ 2 ≤ b.ii ∧ PosP f.A b.C (b.ii - 1)) ∨ (b.kd = 3 ∧ thereP f b ∧ cntP f b) ∨ (b.kd = 4 ∧ thereP f b ∧ anyB f b)) = (b.ii = 1) := propext ⟨fun h => by omega, fun h => .inl ⟨k1, h⟩⟩
    rw [hr]
    simp (contextual := true) (maxSteps := 10000000) (implicitDefEqProofs := false) [e1, e2, f1, hlr, ga.all, gr.all, gn.all, gc.all, RtB_kif, RtB_some, kCond_kc, kc_kif, ↓kif_tr, ↓kif_fl, kif_tr, kif_fl, kif_same, ↓kif_not, ↓kif_or, ↓kifg_tr, ↓kifg_fl, ↓kifg_not, ↓kifg_or, ↓kifg_and, kifg_kif, kifB_t, kifB_f, kifB_ft, kifB_tt, kif_bool, kif_int, mergeL, mergeV, mergeS, mergeRs, kSeq_kif, kBlk_kif, kPost_kif, kNext_kif, kFin_kif, kReg_kif, kOps_kif, kO_kif, kG_kif, kDrw_kif, kW_kif, kOpsW_kif, kRet_kif, map_kif, bind_kif, kWant_t, kWant_f, kWant_kif, ↓execI_pick, kPick_bool, kPick_kif, ↓execI_iadr, kIadr_sl, ↓execI_idxs, kIdxs_str, ↓execI_len, ↓rdB_ld, kRd_ptr, kRd_tptr, kRd_tup, kRd_kif, kOpsW_bs, gt0, st0, gt1, st1, gt2, st2, gt3, st3, gt4, st4, gt5, st5, gt6, st6, gt7, st7, gt8, st8, -kWant_bool, -Int.not_le, -Int.not_lt, -decide_eq_true_eq, -decide_eq_false_iff_not, -List.getD_eq_getElem?_getD, -List.set_cons_succ, -List.set_cons_zero, -Bool.and_eq_true, -Bool.or_eq_true, -Bool.not_eq_eq_eq_not, -Bool.or_eq_false_iff, -Bool.and_eq_false_imp, -Bool.not_eq_true, -Bool.not_eq_false]
    simp
  have f1 : decide (b.kd = 1) = false := by simp [k1]
  by_cases k2 : b.kd = 2
  · have f2 : decide (b.kd = 2) = true := by simp [k2]
    have hr : ((b.kd = 1 ∧ b.ii = 1) ∨ (b.kd = 2 ∧ 2 ≤ b.ii ∧ PosP f.A b.C (b.ii - 1)) ∨ (b.kd = 3 ∧ thereP f b ∧ cntP f b) ∨ (b.kd = 4 ∧ thereP f b ∧ anyB f b)) = (2 ≤ b.ii ∧ PosP f.A b.C (b.ii - 1)) := propext ⟨fun h => by rcases h with h | h | h | h <;> first | exact h.2 | omega, fun h => .inr (.inl ⟨k2, h⟩)⟩
    rw [hr]
    have q16 := d16 (K + 2) f.ins f.par f.loop f.va f.vr f.vn ga.tree gr.tree gn.tree
    have w2 : IntKind.i64.wrap (f.ins + f.par) = f.ins + f.par := wrap64 (by omega) (by omega)
    have w3 : IntKind.i64.wrap (f.ins + f.par + 1) = f.ins + f.par + 1 := wrap64 (by omega) (by omega)
    have w4 : IntKind.i64.wrap (f.ins + f.par + 1 + 1) = f.ins + f.par + 2 := by rw [wrap64 (by omega) (by omega)]; omega
    rw [w2, w3] at q16
    obtain ⟨w, bb, d21, q21, hb21⟩ := tot17 K f h.hf b h.hb (f.ins + f.par + 2) (b.ii - 1) h.hA h.hC ⟨by omega, by omega⟩ ⟨by omega, by omega⟩ (h.okA hv1) (by omega)
    rw [← hb21]
    simp (contextual := true) (maxSteps := 10000000) (implicitDefEqProofs := false) [c8_r0, c8_a0, callV_pu, q21, q16, w1, w4, e1, e2, f1, f2, hlr, ga.all, gr.all, gn.all, gc.all, RtB_kif, RtB_some, kCond_kc, kc_kif, ↓kif_tr, ↓kif_fl, kif_tr, kif_fl, kif_same, ↓kif_not, ↓kif_or, ↓kifg_tr, ↓kifg_fl, ↓kifg_not, ↓kifg_or, ↓kifg_and, kifg_kif, kifB_t, kifB_f, kifB_ft, kifB_tt, kif_bool, kif_int, mergeL, mergeV, mergeS, mergeRs, kSeq_kif, kBlk_kif, kPost_kif, kNext_kif, kFin_kif, kReg_kif, kOps_kif, kO_kif, kG_kif, kDrw_kif, kW_kif, kOpsW_kif, kRet_kif, map_kif, bind_kif, kWant_t, kWant_f, kWant_kif, ↓execI_pick, kPick_bool, kPick_kif, ↓execI_iadr, kIadr_sl, ↓execI_idxs, kIdxs_str, ↓execI_len, ↓rdB_ld, kRd_ptr, kRd_tptr, kRd_tup, kRd_kif, kOpsW_bs, gt0, st0, gt1, st1, gt2, st2, gt3, st3, gt4, st4, gt5, st5, gt6, st6, gt7, st7, gt8, st8, -kWant_bool, -Int.not_le, -Int.not_lt, -decide_eq_true_eq, -decide_eq_false_iff_not, -List.getD_eq_getElem?_getD, -List.set_cons_succ, -List.set_cons_zero, -Bool.and_eq_true, -Bool.or_eq_true, -Bool.not_eq_eq_eq_not, -Bool.or_eq_false_iff, -Bool.and_eq_false_imp, -Bool.not_eq_true, -Bool.not_eq_false]
    simp
  have f2 : decide (b.kd = 2) = false := by simp [k2]
  by_cases k5 : b.kd = 3 ∨ b.kd = 4
  case neg =>
    have f3 : decide (b.kd = 3) = false := by simp; omega
    have f4 : decide (b.kd = 4) = false := by simp; omega
    have hr : ((b.kd = 1 ∧ b.ii = 1) ∨ (b.kd = 2 ∧ 2 ≤ b.ii ∧ PosP f.A b.C (b.ii - 1)) ∨ (b.kd = 3 ∧ thereP f b ∧ cntP f b) ∨ (b.kd = 4 ∧ thereP f b ∧ anyB f b)) = False := propext ⟨fun h => by omega, False.elim⟩
    rw [hr]
    simp (contextual := true) (maxSteps := 10000000) (implicitDefEqProofs := false) [e1, e2, f1, f2, f3, f4, hlr, ga.all, gr.all, gn.all, gc.all, RtB_kif, RtB_some, kCond_kc, kc_kif, ↓kif_tr, ↓kif_fl, kif_tr, kif_fl, kif_same, ↓kif_not, ↓kif_or, ↓kifg_tr, ↓kifg_fl, ↓kifg_not, ↓kifg_or, ↓kifg_and, kifg_kif, kifB_t, kifB_f, kifB_ft, kifB_tt, kif_bool, kif_int, mergeL, mergeV, mergeS, mergeRs, kSeq_kif, kBlk_kif, kPost_kif, kNext_kif, kFin_kif, kReg_kif, kOps_kif, kO_kif, kG_kif, kDrw_kif, kW_kif, kOpsW_kif, kRet_kif, map_kif, bind_kif, kWant_t, kWant_f, kWant_kif, ↓execI_pick, kPick_bool, kPick_kif, ↓execI_iadr, kIadr_sl, ↓execI_idxs, kIdxs_str, ↓execI_len, ↓rdB_ld, kRd_ptr, kRd_tptr, kRd_tup, kRd_kif, kOpsW_bs, gt0, st0, gt1, st1, gt2, st2, gt3, st3, gt4, st4, gt5, st5, gt6, st6, gt7, st7, gt8, st8, -kWant_bool, -Int.not_le, -Int.not_lt, -decide_eq_true_eq, -decide_eq_false_iff_not, -List.getD_eq_getElem?_getD, -List.set_cons_succ, -List.set_cons_zero, -Bool.and_eq_true, -Bool.or_eq_true, -Bool.not_eq_eq_eq_not, -Bool.or_eq_false_iff, -Bool.and_eq_false_imp, -Bool.not_eq_true, -Bool.not_eq_false]
  by_cases t1 : thereP f b
  case neg =>
    have hr : ((b.kd = 1 ∧ b.ii = 1) ∨ (b.kd = 2 ∧ 2 ≤ b.ii ∧ PosP f.A b.C (b.ii - 1)) ∨ (b.kd = 3 ∧ thereP f b ∧ cntP f b) ∨ (b.kd = 4 ∧ thereP f b ∧ anyB f b)) = False := propext ⟨fun h => by rcases h with h | h | h | h <;> first | omega | exact t1 h.2.1, False.elim⟩
    rw [hr]
    by_cases t2 : b.rs < 0
    · have g1 : decide (b.rs < 0) = true := by simp [t2]
      rcases k5 with k3 | k4
      · have f3 : decide (b.kd = 3) = true := by simp [k3]
        simp (contextual := true) (maxSteps := 10000000) (implicitDefEqProofs := false) [e1, e2, f1, f2, f3, g1, hlr, ga.all, gr.all, gn.all, gc.all, RtB_kif, RtB_some, kCond_kc, kc_kif, ↓kif_tr, ↓kif_fl, kif_tr, kif_fl, kif_same, ↓kif_not, ↓kif_or, ↓kifg_tr, ↓kifg_fl, ↓kifg_not, ↓kifg_or, ↓kifg_and, kifg_kif, kifB_t, kifB_f, kifB_ft, kifB_tt, kif_bool, kif_int, mergeL, mergeV, mergeS, mergeRs, kSeq_kif, kBlk_kif, kPost_kif, kNext_kif, kFin_kif, kReg_kif, kOps_kif, kO_kif, kG_kif, kDrw_kif, kW_kif, kOpsW_kif, kRet_kif, map_kif, bind_kif, kWant_t, kWant_f, kWant_kif, ↓execI_pick, kPick_bool, kPick_kif, ↓execI_iadr, kIadr_sl, ↓execI_idxs, kIdxs_str, ↓execI_len, ↓rdB_ld, kRd_ptr, kRd_tptr, kRd_tup, kRd_kif, kOpsW_bs, gt0, st0, gt1, st1, gt2, st2, gt3, st3, gt4, st4, gt5, st5, gt6, st6, gt7, st7, gt8, st8, -kWant_bool, -Int.not_le, -Int.not_lt, -decide_eq_true_eq, -decide_eq_false_iff_not, -List.getD_eq_getElem?_getD, -List.set_cons_succ, -List.set_cons_zero, -Bool.and_eq_true, -Bool.or_eq_true, -Bool.not_eq_eq_eq_not, -Bool.or_eq_false_iff, -Bool.and_eq_false_imp, -Bool.not_eq_true, -Bool.not_eq_false]
      · have f3 : decide (b.kd = 3) = false := by simp; omega
        have f4 : decide (b.kd = 4) = true := by simp [k4]
        simp (contextual := true) (maxSteps := 10000000) (implicitDefEqProofs := false) [e1, e2, f1, f2, f3, f4, g1, hlr, ga.all, gr.all, gn.all, gc.all, RtB_kif, RtB_some, kCond_kc, kc_kif, ↓kif_tr, ↓kif_fl, kif_tr, kif_fl, kif_same, ↓kif_not, ↓kif_or, ↓kifg_tr, ↓kifg_fl, ↓kifg_not, ↓kifg_or, ↓kifg_and, kifg_kif, kifB_t, kifB_f, kifB_ft, kifB_tt, kif_bool, kif_int, mergeL, mergeV, mergeS, mergeRs, kSeq_kif, kBlk_kif, kPost_kif, kNext_kif, kFin_kif, kReg_kif, kOps_kif, kO_kif, kG_kif, kDrw_kif, kW_kif, kOpsW_kif, kRet_kif, map_kif, bind_kif, kWant_t, kWant_f, kWant_kif, ↓execI_pick, kPick_bool, kPick_kif, ↓execI_iadr, kIadr_sl, ↓execI_idxs, kIdxs_str, ↓execI_len, ↓rdB_ld, kRd_ptr, kRd_tptr, kRd_tup, kRd_kif, kOpsW_bs, gt0, st0, gt1, st1, gt2, st2, gt3, st3, gt4, st4, gt5, st5, gt6, st6, gt7, st7, gt8, st8, -kWant_bool, -Int.not_le, -Int.not_lt, -decide_eq_true_eq, -decide_eq_false_iff_not, -List.getD_eq_getElem?_getD, -List.set_cons_succ, -List.set_cons_zero, -Bool.and_eq_true, -Bool.or_eq_true, -Bool.not_eq_eq_eq_not, -Bool.or_eq_false_iff, -Bool.and_eq_false_imp, -Bool.not_eq_true, -Bool.not_eq_false]
    · have g1 : decide (b.rs < 0) = false := by simp; omega
      have g2 : decide ((f.R.length : Int) ≤ b.rs) = true := by unfold thereP at t1; simp; omega
      rcases k5 with k3 | k4
      · have f3 : decide (b.kd = 3) = true := by simp [k3]
        simp (contextual := true) (maxSteps := 10000000) (implicitDefEqProofs := false) [e1, e2, f1, f2, f3, g1, g2, hlr, ga.all, gr.all, gn.all, gc.all, RtB_kif, RtB_some, kCond_kc, kc_kif, ↓kif_tr, ↓kif_fl, kif_tr, kif_fl, kif_same, ↓kif_not, ↓kif_or, ↓kifg_tr, ↓kifg_fl, ↓kifg_not, ↓kifg_or, ↓kifg_and, kifg_kif, kifB_t, kifB_f, kifB_ft, kifB_tt, kif_bool, kif_int, mergeL, mergeV, mergeS, mergeRs, kSeq_kif, kBlk_kif, kPost_kif, kNext_kif, kFin_kif, kReg_kif, kOps_kif, kO_kif, kG_kif, kDrw_kif, kW_kif, kOpsW_kif, kRet_kif, map_kif, bind_kif, kWant_t, kWant_f, kWant_kif, ↓execI_pick, kPick_bool, kPick_kif, ↓execI_iadr, kIadr_sl, ↓execI_idxs, kIdxs_str, ↓execI_len, ↓rdB_ld, kRd_ptr, kRd_tptr, kRd_tup, kRd_kif, kOpsW_bs, gt0, st0, gt1, st1, gt2, st2, gt3, st3, gt4, st4, gt5, st5, gt6, st6, gt7, st7, gt8, st8, -kWant_bool, -Int.not_le, -Int.not_lt, -decide_eq_true_eq, -decide_eq_false_iff_not, -List.getD_eq_getElem?_getD, -List.set_cons_succ, -List.set_cons_zero, -Bool.and_eq_true, -Bool.or_eq_true, -Bool.not_eq_eq_eq_not, -Bool.or_eq_false_iff, -Bool.and_eq_false_imp, -Bool.not_eq_true, -Bool.not_eq_false]
      · have f3 : decide (b.kd = 3) = false := by simp; omega
        have f4 : decide (b.kd = 4) = true := by simp [k4]
        simp (contextual := true) (maxSteps := 10000000) (implicitDefEqProofs := false) [e1, e2, f1, f2, f3, f4, g1, g2, hlr, ga.all, gr.all, gn.all, gc.all, RtB_kif, RtB_some, kCond_kc, kc_kif, ↓kif_tr, ↓kif_fl, kif_tr, kif_fl, kif_same, ↓kif_not, ↓kif_or, ↓kifg_tr, ↓kifg_fl, ↓kifg_not, ↓kifg_or, ↓kifg_and, kifg_kif, kifB_t, kifB_f, kifB_ft, kifB_tt, kif_bool, kif_int, mergeL, mergeV, mergeS, mergeRs, kSeq_kif, kBlk_kif, kPost_kif, kNext_kif, kFin_kif, kReg_kif, kOps_kif, kO_kif, kG_kif, kDrw_kif, kW_kif, kOpsW_kif, kRet_kif, map_kif, bind_kif, kWant_t, kWant_f, kWant_kif, ↓execI_pick, kPick_bool, kPick_kif, ↓execI_iadr, kIadr_sl, ↓execI_idxs, kIdxs_str, ↓execI_len, ↓rdB_ld, kRd_ptr, kRd_tptr, kRd_tup, kRd_kif, kOpsW_bs, gt0, st0, gt1, st1, gt2, st2, gt3, st3, gt4, st4, gt5, st5, gt6, st6, gt7, st7, gt8, st8, -kWant_bool, -Int.not_le, -Int.not_lt, -decide_eq_true_eq, -decide_eq_false_iff_not, -List.getD_eq_getElem?_getD, -List.set_cons_succ, -List.set_cons_zero, -Bool.and_eq_true, -Bool.or_eq_true, -Bool.not_eq_eq_eq_not, -Bool.or_eq_false_iff, -Bool.and_eq_false_imp, -Bool.not_eq_true, -Bool.not_eq_false]
  have hrl : b.rs.toNat < f.R.length := by have := t1.1; have := t1.2; omega
  have hrr := rowR h.hf hrl
  have hrs := rs_bd hv1 hrl
  have g3 : decide (b.rs < 0) = false := by have := t1.1; simp; omega
  have g4 : decide ((f.R.length : Int) ≤ b.rs) = false := by have := t1.2; simp; omega
  have q18 := d18 (K + 2) f h.hf b.rs (by have := h.hN; omega) (bu_bd hv1) (by omega)
  unfold Fl.v at q18
  rcases k5 with k3 | k4
  · have f3 : decide (b.kd = 3) = true := by simp [k3]
    have hr : ((b.kd = 1 ∧ b.ii = 1) ∨ (b.kd = 2 ∧ 2 ≤ b.ii ∧ PosP f.A b.C (b.ii - 1)) ∨ (b.kd = 3 ∧ thereP f b ∧ cntP f b) ∨ (b.kd = 4 ∧ thereP f b ∧ anyB f b)) = cntP f b := propext ⟨fun h => by rcases h with h | h | h | h <;> first | exact h.2.2 | omega, fun h => .inr (.inr (.inl ⟨k3, t1, h⟩))⟩
    rw [hr]
    have hm := mul_bd (a := b.ii - 1) (c := (rsAt f.R b.rs.toNat).ct) (by omega) (by omega) (by omega) (by omega)
    have w2 : IntKind.i64.wrap ((b.ii - 1) * (rsAt f.R b.rs.toNat).ct) = (b.ii - 1) * (rsAt f.R b.rs.toNat).ct := wrap64 (by omega) (by omega)
    simp (contextual := true) (maxSteps := 10000000) (implicitDefEqProofs := false) [c8_r1, c8_a1, callV_pu, q18, e1, e2, f1, f2, f3, g3, g4, hlr, hrr, w1, w2, ga.all, gr.all, gn.all, gc.all, kIadr_LS gr, RtB_kif, RtB_some, kCond_kc, kc_kif, ↓kif_tr, ↓kif_fl, kif_tr, kif_fl, kif_same, ↓kif_not, ↓kif_or, ↓kifg_tr, ↓kifg_fl, ↓kifg_not, ↓kifg_or, ↓kifg_and, kifg_kif, kifB_t, kifB_f, kifB_ft, kifB_tt, kif_bool, kif_int, mergeL, mergeV, mergeS, mergeRs, kSeq_kif, kBlk_kif, kPost_kif, kNext_kif, kFin_kif, kReg_kif, kOps_kif, kO_kif, kG_kif, kDrw_kif, kW_kif, kOpsW_kif, kRet_kif, map_kif, bind_kif, kWant_t, kWant_f, kWant_kif, ↓execI_pick, kPick_bool, kPick_kif, ↓execI_iadr, kIadr_sl, ↓execI_idxs, kIdxs_str, ↓execI_len, ↓rdB_ld, kRd_ptr, kRd_tptr, kRd_tup, kRd_kif, kOpsW_bs, gt0, st0, gt1, st1, gt2, st2, gt3, st3, gt4, st4, gt5, st5, gt6, st6, gt7, st7, gt8, st8, -kWant_bool, -Int.not_le, -Int.not_lt, -decide_eq_true_eq, -decide_eq_false_iff_not, -List.getD_eq_getElem?_getD, -List.set_cons_succ, -List.set_cons_zero, -Bool.and_eq_true, -Bool.or_eq_true, -Bool.not_eq_eq_eq_not, -Bool.or_eq_false_iff, -Bool.and_eq_false_imp, -Bool.not_eq_true, -Bool.not_eq_false]
    simp [cntP]
  · have f3 : decide (b.kd = 3) = false := by simp; omega
    have f4 : decide (b.kd = 4) = true := by simp [k4]
    have hr : ((b.kd = 1 ∧ b.ii = 1) ∨ (b.kd = 2 ∧ 2 ≤ b.ii ∧ PosP f.A b.C (b.ii - 1)) ∨ (b.kd = 3 ∧ thereP f b ∧ cntP f b) ∨ (b.kd = 4 ∧ thereP f b ∧ anyB f b)) = anyB f b := propext ⟨fun h => by rcases h with h | h | h | h <;> first | exact h.2.2 | omega, fun h => .inr (.inr (.inr ⟨k4, t1, h⟩))⟩
    rw [hr, show anyB f b = _ from propext (any_lon (by omega))]
    simp (contextual := true) (maxSteps := 10000000) (implicitDefEqProofs := false) [callV_pu, q18, e1, e2, f1, f2, f3, f4, g3, g4, hlr, ga.all, gr.all, gn.all, gc.all, RtB_kif, RtB_some, kCond_kc, kc_kif, ↓kif_tr, ↓kif_fl, kif_tr, kif_fl, kif_same, ↓kif_not, ↓kif_or, ↓kifg_tr, ↓kifg_fl, ↓kifg_not, ↓kifg_or, ↓kifg_and, kifg_kif, kifB_t, kifB_f, kifB_ft, kifB_tt, kif_bool, kif_int, mergeL, mergeV, mergeS, mergeRs, kSeq_kif, kBlk_kif, kPost_kif, kNext_kif, kFin_kif, kReg_kif, kOps_kif, kO_kif, kG_kif, kDrw_kif, kW_kif, kOpsW_kif, kRet_kif, map_kif, bind_kif, kWant_t, kWant_f, kWant_kif, ↓execI_pick, kPick_bool, kPick_kif, ↓execI_iadr, kIadr_sl, ↓execI_idxs, kIdxs_str, ↓execI_len, ↓rdB_ld, kRd_ptr, kRd_tptr, kRd_tup, kRd_kif, kOpsW_bs, gt0, st0, gt1, st1, gt2, st2, gt3, st3, gt4, st4, gt5, st5, gt6, st6, gt7, st7, gt8, st8, -kWant_bool, -Int.not_le, -Int.not_lt, -decide_eq_true_eq, -decide_eq_false_iff_not, -List.getD_eq_getElem?_getD, -List.set_cons_succ, -List.set_cons_zero, -Bool.and_eq_true, -Bool.or_eq_true, -Bool.not_eq_eq_eq_not, -Bool.or_eq_false_iff, -Bool.and_eq_false_imp, -Bool.not_eq_true, -Bool.not_eq_false]
    simp
end Go.AM.Ytdgineiemjplhaa
