/- profile.Critical: its loop over the needs. -/
import Derived.Test.YtdgineiemjplhaaCrH
set_option linter.unusedVariables false
set_option linter.unusedSimpArgs false
namespace Go.AM.Ytdgineiemjplhaa
open Go Go.AM Go.Lib
set_option maxRecDepth 100000
set_option maxHeartbeats 0
attribute [local congr] kif_congr
def T6be (vn : V) (m k : Nat) (H : Heap) (d : Bool) : St := ⟨[.undef, .undef, .undef, .ptr 0 1 0 0, .undef, .nils, .undef, .undef, .undef, .undef, .undef, .undef, .undef, .undef, .undef, .undef, .undef, .undef, .undef, .undef, .undef, .undef, .undef, .undef, .undef, .undef, .undef, .undef, .undef, .undef, .undef, .undef, .undef, .undef, .undef, .undef, .undef, .undef, .undef, .undef, .undef, .undef, .undef, .undef, .undef, vn, .int .i64 m, .int .i64 k, .undef, .undef, .undef, .undef, .undef, .undef, .undef, .undef, .undef, .undef, .undef, .undef, .undef, .undef, .undef, .undef, .undef, .undef, .undef, .undef, .undef, .undef, .undef, .undef, .undef, .undef, .undef, .undef, .undef, .undef, .undef, .undef, .undef, .undef, .undef, .undef, .undef, .undef, .undef], H, d⟩
def T6bn (vn : V) (l m k : Nat) (H : Heap) (d : Bool) : St := ⟨[.undef, .undef, .undef, .ptr 0 1 0 0, .undef, .sl 1 1 l 0 l, .undef, .undef, .undef, .undef, .undef, .undef, .undef, .undef, .undef, .undef, .undef, .undef, .undef, .undef, .undef, .undef, .undef, .undef, .undef, .undef, .undef, .undef, .undef, .undef, .undef, .undef, .undef, .undef, .undef, .undef, .undef, .undef, .undef, .undef, .undef, .undef, .undef, .undef, .undef, vn, .int .i64 m, .int .i64 k, .undef, .undef, .undef, .undef, .undef, .undef, .undef, .undef, .undef, .undef, .undef, .undef, .undef, .undef, .undef, .undef, .undef, .undef, .undef, .undef, .undef, .undef, .undef, .undef, .undef, .undef, .undef, .undef, .undef, .undef, .undef, .undef, .undef, .undef, .undef, .undef, .undef, .undef, .undef], H, d⟩
def J6b (B : Blk) (vn : V) (m : Nat) (L : List Int) (k : Nat) (t : St) : Prop := ∃ d, (L = [] ∧ t = T6be vn m k [B] d) ∨ (0 < L.length ∧ t = T6bn vn L.length m k [B, bxI L] d)
theorem g6b (call : CallT) (K : Nat) (f : Fl) (b : Bd) (h : Env f b) (k2 : b.kd ≠ 2) (j : Nat) (hj : j < f.N.length) (t : St) (ht : J6b (bxB b) f.vn f.N.length (crL f b j) j t) :
    Go1 (tidy [3, 5, 45, 46, 47] 0) (J6b (bxB b) f.vn f.N.length (crL f b (j + 1)) (j + 1)) (fun _ => False) (execC call pu 0 K c6_b0 t) := by
  obtain ⟨d, ht⟩ := ht
  have gn := Sl.ls h.hf.n
  have gc := Sl.ls h.hb
  have hln := lenN h.hf
  have hN := h.hN
  have h1 : IntKind.i64.wrap ((j : Int) + 1) = (j : Int) + 1 := wrap64 (by omega) (by omega)
  have h3 : decide (f.N.length ≤ j) = false := by simp; omega
  have h4 : decide (j < f.N.length) = true := by simp; omega
  have hr := rowN h.hf hj
  have hcl := crL_len f b j
  have hF := crL_succ f b j
  generalize crL f b j = L at *
  generalize crL f b (j + 1) = L' at *
  subst hF
  by_cases a3 : b.kd = 3
  · have e3 : decide (b.kd = 3) = true := by simp [a3]
    have e4 : decide (b.kd = 4) = false := by simp [a3]
    by_cases a5 : (ndAt f.N j).rs = b.rs
    · have e5 : decide ((ndAt f.N j).rs = b.rs) = true := by simp [a5]
      have hc : cnd f b j = true := by simp [cnd, mtB, *]
      rw [if_pos hc]
      rcases ht with ⟨rfl, rfl⟩ | ⟨hl0, rfl⟩
      · have fin : ∀ d, J6b (bxB b) f.vn f.N.length ([] ++ [(j : Int)]) (j + 1) (T6bn f.vn 1 f.N.length (j + 1) [bxB b, bxI [(j : Int)]] d) := fun d => ⟨d, .inr ⟨by simp, rfl⟩⟩
        generalize J6b (bxB b) f.vn f.N.length ([] ++ [(j : Int)]) (j + 1) = II at fin ⊢
        simp only [T6bn, bxB, bxI, ivs, List.map_cons, List.map_nil, Int.natCast_add, Int.natCast_one] at fin
        unfold c6_b0 T6be bxB
        simp (contextual := true) (maxSteps := 10000000) (implicitDefEqProofs := false) [hln, h1, h3, h4, hr, gn.all, gc.all, kIadr_LS gn, e3, e4, e5, appV, elemsOf, roomB, freezeH, fin, Go1_kif, Go1_ret, Go1_normal, Go1_exit, RtF_ret, ex_eq, ex_eq2, tidy, kCond_kc, kc_kif, ↓kif_tr, ↓kif_fl, kif_tr, kif_fl, kif_same, ↓kif_not, ↓kif_or, ↓kifg_tr, ↓kifg_fl, ↓kifg_not, ↓kifg_or, ↓kifg_and, kifg_kif, kifB_t, kifB_f, kifB_ft, kifB_tt, kif_bool, kif_int, mergeL, mergeV, mergeS, mergeRs, kSeq_kif, kBlk_kif, kPost_kif, kNext_kif, kFin_kif, kReg_kif, kOps_kif, kO_kif, kG_kif, kDrw_kif, kW_kif, kOpsW_kif, kRet_kif, map_kif, bind_kif, kWant_t, kWant_f, kWant_kif, ↓execI_pick, kPick_bool, kPick_kif, ↓execI_iadr, kIadr_sl, ↓execI_idxs, kIdxs_str, ↓execI_len, ↓rdB_ld, kRd_ptr, kRd_tptr, kRd_tup, kRd_kif, kOpsW_bs, gt0, st0, gt1, st1, gt2, st2, gt3, st3, gt4, st4, gt5, st5, gt6, st6, gt7, st7, gt8, st8, -kWant_bool, -Int.not_le, -Int.not_lt, -decide_eq_true_eq, -decide_eq_false_iff_not, -List.getD_eq_getElem?_getD, -List.set_cons_succ, -List.set_cons_zero, -Bool.and_eq_true, -Bool.or_eq_true, -Bool.not_eq_eq_eq_not, -Bool.or_eq_false_iff, -Bool.and_eq_false_imp, -Bool.not_eq_true, -Bool.not_eq_false]
      · have r1 : (L.length + 1) * 8 ≤ 140737488351232 := by omega
        have r2 : L.length + 1 ≤ 140737488351232 := by omega
        have lg : ¬ L.length + 1 ≤ L.length := by omega
        have hl : (L.map ivs).length = L.length := by simp
        have tak : (L.map ivs).take L.length = L.map ivs := List.take_of_length_le (by omega)
        have dr : (L.map ivs).drop (L.length + 1) = [] := List.drop_eq_nil_of_le (by omega)
        have fin : ∀ d, J6b (bxB b) f.vn f.N.length (L ++ [(j : Int)]) (j + 1) (T6bn f.vn (L.length + 1) f.N.length (j + 1) [bxB b, bxI (L ++ [(j : Int)])] d) := fun d => ⟨d, .inr ⟨by simp, by simp⟩⟩
        generalize J6b (bxB b) f.vn f.N.length (L ++ [(j : Int)]) (j + 1) = II at fin ⊢
        simp only [T6bn, bxB, bxI, List.map_append, List.map_cons, List.map_nil, Int.natCast_add, Int.natCast_one] at fin
        unfold c6_b0 T6bn bxB bxI
        generalize L.map ivs = os at *
        simp only [ivs] at fin
        simp (contextual := true) (maxSteps := 10000000) (implicitDefEqProofs := false) [hln, h1, h3, h4, hr, gn.all, gc.all, kIadr_LS gn, e3, e4, e5, hl, r1, r2, lg, tak, dr, appV, elemsOf, roomB, freezeH, fin, Go1_kif, Go1_ret, Go1_normal, Go1_exit, RtF_ret, ex_eq, ex_eq2, tidy, kCond_kc, kc_kif, ↓kif_tr, ↓kif_fl, kif_tr, kif_fl, kif_same, ↓kif_not, ↓kif_or, ↓kifg_tr, ↓kifg_fl, ↓kifg_not, ↓kifg_or, ↓kifg_and, kifg_kif, kifB_t, kifB_f, kifB_ft, kifB_tt, kif_bool, kif_int, mergeL, mergeV, mergeS, mergeRs, kSeq_kif, kBlk_kif, kPost_kif, kNext_kif, kFin_kif, kReg_kif, kOps_kif, kO_kif, kG_kif, kDrw_kif, kW_kif, kOpsW_kif, kRet_kif, map_kif, bind_kif, kWant_t, kWant_f, kWant_kif, ↓execI_pick, kPick_bool, kPick_kif, ↓execI_iadr, kIadr_sl, ↓execI_idxs, kIdxs_str, ↓execI_len, ↓rdB_ld, kRd_ptr, kRd_tptr, kRd_tup, kRd_kif, kOpsW_bs, gt0, st0, gt1, st1, gt2, st2, gt3, st3, gt4, st4, gt5, st5, gt6, st6, gt7, st7, gt8, st8, -kWant_bool, -Int.not_le, -Int.not_lt, -decide_eq_true_eq, -decide_eq_false_iff_not, -List.getD_eq_getElem?_getD, -List.set_cons_succ, -List.set_cons_zero, -Bool.and_eq_true, -Bool.or_eq_true, -Bool.not_eq_eq_eq_not, -Bool.or_eq_false_iff, -Bool.and_eq_false_imp, -Bool.not_eq_true, -Bool.not_eq_false]
    · have e5 : decide ((ndAt f.N j).rs = b.rs) = false := by simp [a5]
      have hc : ¬ cnd f b j = true := by simp [cnd, mtB, *]
      rw [if_neg hc, List.append_nil]
      rcases ht with ⟨hl0, rfl⟩ | ⟨hl0, rfl⟩
      · have fin : ∀ d, J6b (bxB b) f.vn f.N.length L (j + 1) (T6be f.vn f.N.length (j + 1) [bxB b] d) := fun d => ⟨d, .inl ⟨hl0, rfl⟩⟩
        generalize J6b (bxB b) f.vn f.N.length L (j + 1) = II at fin ⊢
        simp only [T6be, bxB, Int.natCast_add, Int.natCast_one] at fin
        unfold c6_b0 T6be bxB
        simp (contextual := true) (maxSteps := 10000000) (implicitDefEqProofs := false) [hln, h1, h3, h4, hr, gn.all, gc.all, kIadr_LS gn, e3, e4, e5, freezeH, fin, Go1_kif, Go1_ret, Go1_normal, Go1_exit, RtF_ret, ex_eq, ex_eq2, tidy, kCond_kc, kc_kif, ↓kif_tr, ↓kif_fl, kif_tr, kif_fl, kif_same, ↓kif_not, ↓kif_or, ↓kifg_tr, ↓kifg_fl, ↓kifg_not, ↓kifg_or, ↓kifg_and, kifg_kif, kifB_t, kifB_f, kifB_ft, kifB_tt, kif_bool, kif_int, mergeL, mergeV, mergeS, mergeRs, kSeq_kif, kBlk_kif, kPost_kif, kNext_kif, kFin_kif, kReg_kif, kOps_kif, kO_kif, kG_kif, kDrw_kif, kW_kif, kOpsW_kif, kRet_kif, map_kif, bind_kif, kWant_t, kWant_f, kWant_kif, ↓execI_pick, kPick_bool, kPick_kif, ↓execI_iadr, kIadr_sl, ↓execI_idxs, kIdxs_str, ↓execI_len, ↓rdB_ld, kRd_ptr, kRd_tptr, kRd_tup, kRd_kif, kOpsW_bs, gt0, st0, gt1, st1, gt2, st2, gt3, st3, gt4, st4, gt5, st5, gt6, st6, gt7, st7, gt8, st8, -kWant_bool, -Int.not_le, -Int.not_lt, -decide_eq_true_eq, -decide_eq_false_iff_not, -List.getD_eq_getElem?_getD, -List.set_cons_succ, -List.set_cons_zero, -Bool.and_eq_true, -Bool.or_eq_true, -Bool.not_eq_eq_eq_not, -Bool.or_eq_false_iff, -Bool.and_eq_false_imp, -Bool.not_eq_true, -Bool.not_eq_false]
      · have fin : ∀ d, J6b (bxB b) f.vn f.N.length L (j + 1) (T6bn f.vn L.length f.N.length (j + 1) [bxB b, bxI L] d) := fun d => ⟨d, .inr ⟨hl0, rfl⟩⟩
        generalize J6b (bxB b) f.vn f.N.length L (j + 1) = II at fin ⊢
        simp only [T6bn, bxB, Int.natCast_add, Int.natCast_one] at fin
        unfold c6_b0 T6bn bxB
        simp (contextual := true) (maxSteps := 10000000) (implicitDefEqProofs := false) [hln, h1, h3, h4, hr, gn.all, gc.all, kIadr_LS gn, e3, e4, e5, bxI_ren, bxI_box, freezeH, fin, Go1_kif, Go1_ret, Go1_normal, Go1_exit, RtF_ret, ex_eq, ex_eq2, tidy, kCond_kc, kc_kif, ↓kif_tr, ↓kif_fl, kif_tr, kif_fl, kif_same, ↓kif_not, ↓kif_or, ↓kifg_tr, ↓kifg_fl, ↓kifg_not, ↓kifg_or, ↓kifg_and, kifg_kif, kifB_t, kifB_f, kifB_ft, kifB_tt, kif_bool, kif_int, mergeL, mergeV, mergeS, mergeRs, kSeq_kif, kBlk_kif, kPost_kif, kNext_kif, kFin_kif, kReg_kif, kOps_kif, kO_kif, kG_kif, kDrw_kif, kW_kif, kOpsW_kif, kRet_kif, map_kif, bind_kif, kWant_t, kWant_f, kWant_kif, ↓execI_pick, kPick_bool, kPick_kif, ↓execI_iadr, kIadr_sl, ↓execI_idxs, kIdxs_str, ↓execI_len, ↓rdB_ld, kRd_ptr, kRd_tptr, kRd_tup, kRd_kif, kOpsW_bs, gt0, st0, gt1, st1, gt2, st2, gt3, st3, gt4, st4, gt5, st5, gt6, st6, gt7, st7, gt8, st8, -kWant_bool, -Int.not_le, -Int.not_lt, -decide_eq_true_eq, -decide_eq_false_iff_not, -List.getD_eq_getElem?_getD, -List.set_cons_succ, -List.set_cons_zero, -Bool.and_eq_true, -Bool.or_eq_true, -Bool.not_eq_eq_eq_not, -Bool.or_eq_false_iff, -Bool.and_eq_false_imp, -Bool.not_eq_true, -Bool.not_eq_false]
  have e3 : decide (b.kd = 3) = false := by simp [a3]
  by_cases a4 : b.kd = 4
  case neg =>
    have e4 : decide (b.kd = 4) = false := by simp [a4]
    have hc : ¬ cnd f b j = true := by simp [cnd, mtB, *]
    rw [if_neg hc, List.append_nil]
    rcases ht with ⟨hl0, rfl⟩ | ⟨hl0, rfl⟩
    · have fin : ∀ d, J6b (bxB b) f.vn f.N.length L (j + 1) (T6be f.vn f.N.length (j + 1) [bxB b] d) := fun d => ⟨d, .inl ⟨hl0, rfl⟩⟩
      generalize J6b (bxB b) f.vn f.N.length L (j + 1) = II at fin ⊢
      simp only [T6be, bxB, Int.natCast_add, Int.natCast_one] at fin
      unfold c6_b0 T6be bxB
      simp (contextual := true) (maxSteps := 10000000) (implicitDefEqProofs := false) [hln, h1, h3, h4, hr, gn.all, gc.all, kIadr_LS gn, e3, e4, freezeH, fin, Go1_kif, Go1_ret, Go1_normal, Go1_exit, RtF_ret, ex_eq, ex_eq2, tidy, kCond_kc, kc_kif, ↓kif_tr, ↓kif_fl, kif_tr, kif_fl, kif_same, ↓kif_not, ↓kif_or, ↓kifg_tr, ↓kifg_fl, ↓kifg_not, ↓kifg_or, ↓kifg_and, kifg_kif, kifB_t, kifB_f, kifB_ft, kifB_tt, kif_bool, kif_int, mergeL, mergeV, mergeS, mergeRs, kSeq_kif, kBlk_kif, kPost_kif, kNext_kif, kFin_kif, kReg_kif, kOps_kif, kO_kif, kG_kif, kDrw_kif, kW_kif, kOpsW_kif, kRet_kif, map_kif, bind_kif, kWant_t, kWant_f, kWant_kif, ↓execI_pick, kPick_bool, kPick_kif, ↓execI_iadr, kIadr_sl, ↓execI_idxs, kIdxs_str, ↓execI_len, ↓rdB_ld, kRd_ptr, kRd_tptr, kRd_tup, kRd_kif, kOpsW_bs, gt0, st0, gt1, st1, gt2, st2, gt3, st3, gt4, st4, gt5, st5, gt6, st6, gt7, st7, gt8, st8, -kWant_bool, -Int.not_le, -Int.not_lt, -decide_eq_true_eq, -decide_eq_false_iff_not, -List.getD_eq_getElem?_getD, -List.set_cons_succ, -List.set_cons_zero, -Bool.and_eq_true, -Bool.or_eq_true, -Bool.not_eq_eq_eq_not, -Bool.or_eq_false_iff, -Bool.and_eq_false_imp, -Bool.not_eq_true, -Bool.not_eq_false]
    · have fin : ∀ d, J6b (bxB b) f.vn f.N.length L (j + 1) (T6bn f.vn L.length f.N.length (j + 1) [bxB b, bxI L] d) := fun d => ⟨d, .inr ⟨hl0, rfl⟩⟩
      generalize J6b (bxB b) f.vn f.N.length L (j + 1) = II at fin ⊢
      simp only [T6bn, bxB, Int.natCast_add, Int.natCast_one] at fin
      unfold c6_b0 T6bn bxB
      simp (contextual := true) (maxSteps := 10000000) (implicitDefEqProofs := false) [hln, h1, h3, h4, hr, gn.all, gc.all, kIadr_LS gn, e3, e4, bxI_ren, bxI_box, freezeH, fin, Go1_kif, Go1_ret, Go1_normal, Go1_exit, RtF_ret, ex_eq, ex_eq2, tidy, kCond_kc, kc_kif, ↓kif_tr, ↓kif_fl, kif_tr, kif_fl, kif_same, ↓kif_not, ↓kif_or, ↓kifg_tr, ↓kifg_fl, ↓kifg_not, ↓kifg_or, ↓kifg_and, kifg_kif, kifB_t, kifB_f, kifB_ft, kifB_tt, kif_bool, kif_int, mergeL, mergeV, mergeS, mergeRs, kSeq_kif, kBlk_kif, kPost_kif, kNext_kif, kFin_kif, kReg_kif, kOps_kif, kO_kif, kG_kif, kDrw_kif, kW_kif, kOpsW_kif, kRet_kif, map_kif, bind_kif, kWant_t, kWant_f, kWant_kif, ↓execI_pick, kPick_bool, kPick_kif, ↓execI_iadr, kIadr_sl, ↓execI_idxs, kIdxs_str, ↓execI_len, ↓rdB_ld, kRd_ptr, kRd_tptr, kRd_tup, kRd_kif, kOpsW_bs, gt0, st0, gt1, st1, gt2, st2, gt3, st3, gt4, st4, gt5, st5, gt6, st6, gt7, st7, gt8, st8, -kWant_bool, -Int.not_le, -Int.not_lt, -decide_eq_true_eq, -decide_eq_false_iff_not, -List.getD_eq_getElem?_getD, -List.set_cons_succ, -List.set_cons_zero, -Bool.and_eq_true, -Bool.or_eq_true, -Bool.not_eq_eq_eq_not, -Bool.or_eq_false_iff, -Bool.and_eq_false_imp, -Bool.not_eq_true, -Bool.not_eq_false]
  have e4 : decide (b.kd = 4) = true := by simp [a4]
  by_cases a5 : (ndAt f.N j).rs = b.rs
  case neg =>
    have e5 : decide ((ndAt f.N j).rs = b.rs) = false := by simp [a5]
    have hc : ¬ cnd f b j = true := by simp [cnd, mtB, *]
    rw [if_neg hc, List.append_nil]
    rcases ht with ⟨hl0, rfl⟩ | ⟨hl0, rfl⟩
    · have fin : ∀ d, J6b (bxB b) f.vn f.N.length L (j + 1) (T6be f.vn f.N.length (j + 1) [bxB b] d) := fun d => ⟨d, .inl ⟨hl0, rfl⟩⟩
      generalize J6b (bxB b) f.vn f.N.length L (j + 1) = II at fin ⊢
      simp only [T6be, bxB, Int.natCast_add, Int.natCast_one] at fin
      unfold c6_b0 T6be bxB
      simp (contextual := true) (maxSteps := 10000000) (implicitDefEqProofs := false) [hln, h1, h3, h4, hr, gn.all, gc.all, kIadr_LS gn, e3, e4, e5, freezeH, fin, Go1_kif, Go1_ret, Go1_normal, Go1_exit, RtF_ret, ex_eq, ex_eq2, tidy, kCond_kc, kc_kif, ↓kif_tr, ↓kif_fl, kif_tr, kif_fl, kif_same, ↓kif_not, ↓kif_or, ↓kifg_tr, ↓kifg_fl, ↓kifg_not, ↓kifg_or, ↓kifg_and, kifg_kif, kifB_t, kifB_f, kifB_ft, kifB_tt, kif_bool, kif_int, mergeL, mergeV, mergeS, mergeRs, kSeq_kif, kBlk_kif, kPost_kif, kNext_kif, kFin_kif, kReg_kif, kOps_kif, kO_kif, kG_kif, kDrw_kif, kW_kif, kOpsW_kif, kRet_kif, map_kif, bind_kif, kWant_t, kWant_f, kWant_kif, ↓execI_pick, kPick_bool, kPick_kif, ↓execI_iadr, kIadr_sl, ↓execI_idxs, kIdxs_str, ↓execI_len, ↓rdB_ld, kRd_ptr, kRd_tptr, kRd_tup, kRd_kif, kOpsW_bs, gt0, st0, gt1, st1, gt2, st2, gt3, st3, gt4, st4, gt5, st5, gt6, st6, gt7, st7, gt8, st8, -kWant_bool, -Int.not_le, -Int.not_lt, -decide_eq_true_eq, -decide_eq_false_iff_not, -List.getD_eq_getElem?_getD, -List.set_cons_succ, -List.set_cons_zero, -Bool.and_eq_true, -Bool.or_eq_true, -Bool.not_eq_eq_eq_not, -Bool.or_eq_false_iff, -Bool.and_eq_false_imp, -Bool.not_eq_true, -Bool.not_eq_false]
    · have fin : ∀ d, J6b (bxB b) f.vn f.N.length L (j + 1) (T6bn f.vn L.length f.N.length (j + 1) [bxB b, bxI L] d) := fun d => ⟨d, .inr ⟨hl0, rfl⟩⟩
      generalize J6b (bxB b) f.vn f.N.length L (j + 1) = II at fin ⊢
      simp only [T6bn, bxB, Int.natCast_add, Int.natCast_one] at fin
      unfold c6_b0 T6bn bxB
      simp (contextual := true) (maxSteps := 10000000) (implicitDefEqProofs := false) [hln, h1, h3, h4, hr, gn.all, gc.all, kIadr_LS gn, e3, e4, e5, bxI_ren, bxI_box, freezeH, fin, Go1_kif, Go1_ret, Go1_normal, Go1_exit, RtF_ret, ex_eq, ex_eq2, tidy, kCond_kc, kc_kif, ↓kif_tr, ↓kif_fl, kif_tr, kif_fl, kif_same, ↓kif_not, ↓kif_or, ↓kifg_tr, ↓kifg_fl, ↓kifg_not, ↓kifg_or, ↓kifg_and, kifg_kif, kifB_t, kifB_f, kifB_ft, kifB_tt, kif_bool, kif_int, mergeL, mergeV, mergeS, mergeRs, kSeq_kif, kBlk_kif, kPost_kif, kNext_kif, kFin_kif, kReg_kif, kOps_kif, kO_kif, kG_kif, kDrw_kif, kW_kif, kOpsW_kif, kRet_kif, map_kif, bind_kif, kWant_t, kWant_f, kWant_kif, ↓execI_pick, kPick_bool, kPick_kif, ↓execI_iadr, kIadr_sl, ↓execI_idxs, kIdxs_str, ↓execI_len, ↓rdB_ld, kRd_ptr, kRd_tptr, kRd_tup, kRd_kif, kOpsW_bs, gt0, st0, gt1, st1, gt2, st2, gt3, st3, gt4, st4, gt5, st5, gt6, st6, gt7, st7, gt8, st8, -kWant_bool, -Int.not_le, -Int.not_lt, -decide_eq_true_eq, -decide_eq_false_iff_not, -List.getD_eq_getElem?_getD, -List.set_cons_succ, -List.set_cons_zero, -Bool.and_eq_true, -Bool.or_eq_true, -Bool.not_eq_eq_eq_not, -Bool.or_eq_false_iff, -Bool.and_eq_false_imp, -Bool.not_eq_true, -Bool.not_eq_false]
  have e5 : decide ((ndAt f.N j).rs = b.rs) = true := by simp [a5]
  by_cases a6 : b.ii ≤ (ndAt f.N j).bu
  · have e6 : decide (b.ii ≤ (ndAt f.N j).bu) = true := by simp [a6]
    have hc : cnd f b j = true := by simp [cnd, mtB, *]
    rw [if_pos hc]
    rcases ht with ⟨rfl, rfl⟩ | ⟨hl0, rfl⟩
    · have fin : ∀ d, J6b (bxB b) f.vn f.N.length ([] ++ [(j : Int)]) (j + 1) (T6bn f.vn 1 f.N.length (j + 1) [bxB b, bxI [(j : Int)]] d) := fun d => ⟨d, .inr ⟨by simp, rfl⟩⟩
      generalize J6b (bxB b) f.vn f.N.length ([] ++ [(j : Int)]) (j + 1) = II at fin ⊢
      simp only [T6bn, bxB, bxI, ivs, List.map_cons, List.map_nil, Int.natCast_add, Int.natCast_one] at fin
      unfold c6_b0 T6be bxB
      simp (contextual := true) (maxSteps := 10000000) (implicitDefEqProofs := false) [hln, h1, h3, h4, hr, gn.all, gc.all, kIadr_LS gn, e3, e4, e5, e6, appV, elemsOf, roomB, freezeH, fin, Go1_kif, Go1_ret, Go1_normal, Go1_exit, RtF_ret, ex_eq, ex_eq2, tidy, kCond_kc, kc_kif, ↓kif_tr, ↓kif_fl, kif_tr, kif_fl, kif_same, ↓kif_not, ↓kif_or, ↓kifg_tr, ↓kifg_fl, ↓kifg_not, ↓kifg_or, ↓kifg_and, kifg_kif, kifB_t, kifB_f, kifB_ft, kifB_tt, kif_bool, kif_int, mergeL, mergeV, mergeS, mergeRs, kSeq_kif, kBlk_kif, kPost_kif, kNext_kif, kFin_kif, kReg_kif, kOps_kif, kO_kif, kG_kif, kDrw_kif, kW_kif, kOpsW_kif, kRet_kif, map_kif, bind_kif, kWant_t, kWant_f, kWant_kif, ↓execI_pick, kPick_bool, kPick_kif, ↓execI_iadr, kIadr_sl, ↓execI_idxs, kIdxs_str, ↓execI_len, ↓rdB_ld, kRd_ptr, kRd_tptr, kRd_tup, kRd_kif, kOpsW_bs, gt0, st0, gt1, st1, gt2, st2, gt3, st3, gt4, st4, gt5, st5, gt6, st6, gt7, st7, gt8, st8, -kWant_bool, -Int.not_le, -Int.not_lt, -decide_eq_true_eq, -decide_eq_false_iff_not, -List.getD_eq_getElem?_getD, -List.set_cons_succ, -List.set_cons_zero, -Bool.and_eq_true, -Bool.or_eq_true, -Bool.not_eq_eq_eq_not, -Bool.or_eq_false_iff, -Bool.and_eq_false_imp, -Bool.not_eq_true, -Bool.not_eq_false]
    · have r1 : (L.length + 1) * 8 ≤ 140737488351232 := by omega
      have r2 : L.length + 1 ≤ 140737488351232 := by omega
      have lg : ¬ L.length + 1 ≤ L.length := by omega
      have hl : (L.map ivs).length = L.length := by simp
      have tak : (L.map ivs).take L.length = L.map ivs := List.take_of_length_le (by omega)
      have dr : (L.map ivs).drop (L.length + 1) = [] := List.drop_eq_nil_of_le (by omega)
      have fin : ∀ d, J6b (bxB b) f.vn f.N.length (L ++ [(j : Int)]) (j + 1) (T6bn f.vn (L.length + 1) f.N.length (j + 1) [bxB b, bxI (L ++ [(j : Int)])] d) := fun d => ⟨d, .inr ⟨by simp, by simp⟩⟩
      generalize J6b (bxB b) f.vn f.N.length (L ++ [(j : Int)]) (j + 1) = II at fin ⊢
      simp only [T6bn, bxB, bxI, List.map_append, List.map_cons, List.map_nil, Int.natCast_add, Int.natCast_one] at fin
      unfold c6_b0 T6bn bxB bxI
      generalize L.map ivs = os at *
      simp only [ivs] at fin
      simp (contextual := true) (maxSteps := 10000000) (implicitDefEqProofs := false) [hln, h1, h3, h4, hr, gn.all, gc.all, kIadr_LS gn, e3, e4, e5, e6, hl, r1, r2, lg, tak, dr, appV, elemsOf, roomB, freezeH, fin, Go1_kif, Go1_ret, Go1_normal, Go1_exit, RtF_ret, ex_eq, ex_eq2, tidy, kCond_kc, kc_kif, ↓kif_tr, ↓kif_fl, kif_tr, kif_fl, kif_same, ↓kif_not, ↓kif_or, ↓kifg_tr, ↓kifg_fl, ↓kifg_not, ↓kifg_or, ↓kifg_and, kifg_kif, kifB_t, kifB_f, kifB_ft, kifB_tt, kif_bool, kif_int, mergeL, mergeV, mergeS, mergeRs, kSeq_kif, kBlk_kif, kPost_kif, kNext_kif, kFin_kif, kReg_kif, kOps_kif, kO_kif, kG_kif, kDrw_kif, kW_kif, kOpsW_kif, kRet_kif, map_kif, bind_kif, kWant_t, kWant_f, kWant_kif, ↓execI_pick, kPick_bool, kPick_kif, ↓execI_iadr, kIadr_sl, ↓execI_idxs, kIdxs_str, ↓execI_len, ↓rdB_ld, kRd_ptr, kRd_tptr, kRd_tup, kRd_kif, kOpsW_bs, gt0, st0, gt1, st1, gt2, st2, gt3, st3, gt4, st4, gt5, st5, gt6, st6, gt7, st7, gt8, st8, -kWant_bool, -Int.not_le, -Int.not_lt, -decide_eq_true_eq, -decide_eq_false_iff_not, -List.getD_eq_getElem?_getD, -List.set_cons_succ, -List.set_cons_zero, -Bool.and_eq_true, -Bool.or_eq_true, -Bool.not_eq_eq_eq_not, -Bool.or_eq_false_iff, -Bool.and_eq_false_imp, -Bool.not_eq_true, -Bool.not_eq_false]
  · have e6 : decide (b.ii ≤ (ndAt f.N j).bu) = false := by simp; omega
    have hc : ¬ cnd f b j = true := by simp [cnd, mtB, *]
    rw [if_neg hc, List.append_nil]
    rcases ht with ⟨hl0, rfl⟩ | ⟨hl0, rfl⟩
    · have fin : ∀ d, J6b (bxB b) f.vn f.N.length L (j + 1) (T6be f.vn f.N.length (j + 1) [bxB b] d) := fun d => ⟨d, .inl ⟨hl0, rfl⟩⟩
      generalize J6b (bxB b) f.vn f.N.length L (j + 1) = II at fin ⊢
      simp only [T6be, bxB, Int.natCast_add, Int.natCast_one] at fin
      unfold c6_b0 T6be bxB
      simp (contextual := true) (maxSteps := 10000000) (implicitDefEqProofs := false) [hln, h1, h3, h4, hr, gn.all, gc.all, kIadr_LS gn, e3, e4, e5, e6, freezeH, fin, Go1_kif, Go1_ret, Go1_normal, Go1_exit, RtF_ret, ex_eq, ex_eq2, tidy, kCond_kc, kc_kif, ↓kif_tr, ↓kif_fl, kif_tr, kif_fl, kif_same, ↓kif_not, ↓kif_or, ↓kifg_tr, ↓kifg_fl, ↓kifg_not, ↓kifg_or, ↓kifg_and, kifg_kif, kifB_t, kifB_f, kifB_ft, kifB_tt, kif_bool, kif_int, mergeL, mergeV, mergeS, mergeRs, kSeq_kif, kBlk_kif, kPost_kif, kNext_kif, kFin_kif, kReg_kif, kOps_kif, kO_kif, kG_kif, kDrw_kif, kW_kif, kOpsW_kif, kRet_kif, map_kif, bind_kif, kWant_t, kWant_f, kWant_kif, ↓execI_pick, kPick_bool, kPick_kif, ↓execI_iadr, kIadr_sl, ↓execI_idxs, kIdxs_str, ↓execI_len, ↓rdB_ld, kRd_ptr, kRd_tptr, kRd_tup, kRd_kif, kOpsW_bs, gt0, st0, gt1, st1, gt2, st2, gt3, st3, gt4, st4, gt5, st5, gt6, st6, gt7, st7, gt8, st8, -kWant_bool, -Int.not_le, -Int.not_lt, -decide_eq_true_eq, -decide_eq_false_iff_not, -List.getD_eq_getElem?_getD, -List.set_cons_succ, -List.set_cons_zero, -Bool.and_eq_true, -Bool.or_eq_true, -Bool.not_eq_eq_eq_not, -Bool.or_eq_false_iff, -Bool.and_eq_false_imp, -Bool.not_eq_true, -Bool.not_eq_false]
    · have fin : ∀ d, J6b (bxB b) f.vn f.N.length L (j + 1) (T6bn f.vn L.length f.N.length (j + 1) [bxB b, bxI L] d) := fun d => ⟨d, .inr ⟨hl0, rfl⟩⟩
      generalize J6b (bxB b) f.vn f.N.length L (j + 1) = II at fin ⊢
      simp only [T6bn, bxB, Int.natCast_add, Int.natCast_one] at fin
      unfold c6_b0 T6bn bxB
      simp (contextual := true) (maxSteps := 10000000) (implicitDefEqProofs := false) [hln, h1, h3, h4, hr, gn.all, gc.all, kIadr_LS gn, e3, e4, e5, e6, bxI_ren, bxI_box, freezeH, fin, Go1_kif, Go1_ret, Go1_normal, Go1_exit, RtF_ret, ex_eq, ex_eq2, tidy, kCond_kc, kc_kif, ↓kif_tr, ↓kif_fl, kif_tr, kif_fl, kif_same, ↓kif_not, ↓kif_or, ↓kifg_tr, ↓kifg_fl, ↓kifg_not, ↓kifg_or, ↓kifg_and, kifg_kif, kifB_t, kifB_f, kifB_ft, kifB_tt, kif_bool, kif_int, mergeL, mergeV, mergeS, mergeRs, kSeq_kif, kBlk_kif, kPost_kif, kNext_kif, kFin_kif, kReg_kif, kOps_kif, kO_kif, kG_kif, kDrw_kif, kW_kif, kOpsW_kif, kRet_kif, map_kif, bind_kif, kWant_t, kWant_f, kWant_kif, ↓execI_pick, kPick_bool, kPick_kif, ↓execI_iadr, kIadr_sl, ↓execI_idxs, kIdxs_str, ↓execI_len, ↓rdB_ld, kRd_ptr, kRd_tptr, kRd_tup, kRd_kif, kOpsW_bs, gt0, st0, gt1, st1, gt2, st2, gt3, st3, gt4, st4, gt5, st5, gt6, st6, gt7, st7, gt8, st8, -kWant_bool, -Int.not_le, -Int.not_lt, -decide_eq_true_eq, -decide_eq_false_iff_not, -List.getD_eq_getElem?_getD, -List.set_cons_succ, -List.set_cons_zero, -Bool.and_eq_true, -Bool.or_eq_true, -Bool.not_eq_eq_eq_not, -Bool.or_eq_false_iff, -Bool.and_eq_false_imp, -Bool.not_eq_true, -Bool.not_eq_false]
theorem x6b (call : CallT) (K : Nat) (B : Blk) (vn : V) (m : Nat) (L : List Int) (t : St) (ht : J6b B vn m L m t) : Nn (execC call pu 0 K c6_b0 t) := by
  obtain ⟨d, ht⟩ := ht
  rcases ht with ⟨hs, rfl⟩ | ⟨hs, rfl⟩
  · unfold c6_b0 T6be
    simp (contextual := true) (maxSteps := 10000000) (implicitDefEqProofs := false) [Nn_exit, kCond_kc, kc_kif, ↓kif_tr, ↓kif_fl, kif_tr, kif_fl, kif_same, ↓kif_not, ↓kif_or, ↓kifg_tr, ↓kifg_fl, ↓kifg_not, ↓kifg_or, ↓kifg_and, kifg_kif, kifB_t, kifB_f, kifB_ft, kifB_tt, kif_bool, kif_int, mergeL, mergeV, mergeS, mergeRs, kSeq_kif, kBlk_kif, kPost_kif, kNext_kif, kFin_kif, kReg_kif, kOps_kif, kO_kif, kG_kif, kDrw_kif, kW_kif, kOpsW_kif, kRet_kif, map_kif, bind_kif, kWant_t, kWant_f, kWant_kif, ↓execI_pick, kPick_bool, kPick_kif, ↓execI_iadr, kIadr_sl, ↓execI_idxs, kIdxs_str, ↓execI_len, ↓rdB_ld, kRd_ptr, kRd_tptr, kRd_tup, kRd_kif, kOpsW_bs, gt0, st0, gt1, st1, gt2, st2, gt3, st3, gt4, st4, gt5, st5, gt6, st6, gt7, st7, gt8, st8, -kWant_bool, -Int.not_le, -Int.not_lt, -decide_eq_true_eq, -decide_eq_false_iff_not, -List.getD_eq_getElem?_getD, -List.set_cons_succ, -List.set_cons_zero, -Bool.and_eq_true, -Bool.or_eq_true, -Bool.not_eq_eq_eq_not, -Bool.or_eq_false_iff, -Bool.and_eq_false_imp, -Bool.not_eq_true, -Bool.not_eq_false]
  · unfold c6_b0 T6bn
    simp (contextual := true) (maxSteps := 10000000) (implicitDefEqProofs := false) [Nn_exit, kCond_kc, kc_kif, ↓kif_tr, ↓kif_fl, kif_tr, kif_fl, kif_same, ↓kif_not, ↓kif_or, ↓kifg_tr, ↓kifg_fl, ↓kifg_not, ↓kifg_or, ↓kifg_and, kifg_kif, kifB_t, kifB_f, kifB_ft, kifB_tt, kif_bool, kif_int, mergeL, mergeV, mergeS, mergeRs, kSeq_kif, kBlk_kif, kPost_kif, kNext_kif, kFin_kif, kReg_kif, kOps_kif, kO_kif, kG_kif, kDrw_kif, kW_kif, kOpsW_kif, kRet_kif, map_kif, bind_kif, kWant_t, kWant_f, kWant_kif, ↓execI_pick, kPick_bool, kPick_kif, ↓execI_iadr, kIadr_sl, ↓execI_idxs, kIdxs_str, ↓execI_len, ↓rdB_ld, kRd_ptr, kRd_tptr, kRd_tup, kRd_kif, kOpsW_bs, gt0, st0, gt1, st1, gt2, st2, gt3, st3, gt4, st4, gt5, st5, gt6, st6, gt7, st7, gt8, st8, -kWant_bool, -Int.not_le, -Int.not_lt, -decide_eq_true_eq, -decide_eq_false_iff_not, -List.getD_eq_getElem?_getD, -List.set_cons_succ, -List.set_cons_zero, -Bool.and_eq_true, -Bool.or_eq_true, -Bool.not_eq_eq_eq_not, -Bool.or_eq_false_iff, -Bool.and_eq_false_imp, -Bool.not_eq_true, -Bool.not_eq_false]
end Go.AM.Ytdgineiemjplhaa

set_option linter.unusedVariables false
set_option linter.unusedSimpArgs false
namespace Go.AM.Ytdgineiemjplhaa
open Go Go.AM Go.Lib
set_option maxRecDepth 100000
set_option maxHeartbeats 0
attribute [local congr] kif_congr
/-- a list of ints that was built -/
def GV (l : List Int) (v : V) (H : Heap) : Prop := (l = [] ∧ v = .nils ∧ H = []) ∨ (0 < l.length ∧ ∃ L es, v = .sl 1 0 L 0 l.length ∧ H = [⟨1, es, 0, false, true⟩] ∧ es.length = L ∧ es.take l.length = l.map ivs ∧ l.length ≤ L)
def RtG (l : List Int) (x : Res) : Prop := ∃ v H d, GV l v H ∧ x = some (v, H, d)
theorem RtG_nils {d : Bool} : RtG [] (some (.nils, [], d)) = True := eq_true ⟨_, _, d, .inl ⟨rfl, rfl, rfl⟩, rfl⟩
theorem RtG_sl {l : List Int} {d : Bool} {L : Nat} {M : List Int} (h0 : 0 < l.length) (h1 : M.length = L) (h2 : (M.map ivs).take l.length = l.map ivs) (h3 : l.length ≤ L) : RtG l (some (.sl 1 0 L 0 l.length, [bxI M], d)) := ⟨_, _, d, .inr ⟨h0, L, M.map ivs, rfl, rfl, by simpa using h1, h2, h3⟩, rfl⟩
theorem tot6n (K : Nat) (hK : 20000 ≤ K) (f : Fl) (b : Bd) (h : Env f b) (hn : ¬ ((validP f ∧ f.loop = true) ∧ AccP f b)) : ∃ d, callF tbl pu (K + 5) 6 [f.v, b.v] [] = some (.nils, [], d) := by
  obtain ⟨c, d, q, hc⟩ := tot12 K hK f b h
  have hcf : c = false := by
    cases c with
    | false => rfl
    | true => exact absurd (hc.1 rfl) hn
  subst hcf
  unfold Fl.v Bd.v at *
  rw [callF_eq tbl6, c6]
  have ga := Sl.ls h.hf.a
  have gr := Sl.ls h.hf.r
  have gn := Sl.ls h.hf.n
  have gc := Sl.ls h.hb
  simp (contextual := true) (maxSteps := 10000000) (implicitDefEqProofs := false) [callV_pu, q, ga.all, gr.all, gn.all, gc.all, kCond_kc, kc_kif, ↓kif_tr, ↓kif_fl, kif_tr, kif_fl, kif_same, ↓kif_not, ↓kif_or, ↓kifg_tr, ↓kifg_fl, ↓kifg_not, ↓kifg_or, ↓kifg_and, kifg_kif, kifB_t, kifB_f, kifB_ft, kifB_tt, kif_bool, kif_int, mergeL, mergeV, mergeS, mergeRs, kSeq_kif, kBlk_kif, kPost_kif, kNext_kif, kFin_kif, kReg_kif, kOps_kif, kO_kif, kG_kif, kDrw_kif, kW_kif, kOpsW_kif, kRet_kif, map_kif, bind_kif, kWant_t, kWant_f, kWant_kif, ↓execI_pick, kPick_bool, kPick_kif, ↓execI_iadr, kIadr_sl, ↓execI_idxs, kIdxs_str, ↓execI_len, ↓rdB_ld, kRd_ptr, kRd_tptr, kRd_tup, kRd_kif, kOpsW_bs, gt0, st0, gt1, st1, gt2, st2, gt3, st3, gt4, st4, gt5, st5, gt6, st6, gt7, st7, gt8, st8, -kWant_bool, -Int.not_le, -Int.not_lt, -decide_eq_true_eq, -decide_eq_false_iff_not, -List.getD_eq_getElem?_getD, -List.set_cons_succ, -List.set_cons_zero, -Bool.and_eq_true, -Bool.or_eq_true, -Bool.not_eq_eq_eq_not, -Bool.or_eq_false_iff, -Bool.and_eq_false_imp, -Bool.not_eq_true, -Bool.not_eq_false]
theorem tot6 (K : Nat) (hK : 20000 ≤ K) (f : Fl) (b : Bd) (h : Env f b) (hv : validP f) (hl : f.loop = true) (hacc : AccP f b) : RtG (crL f b f.N.length) (callF tbl pu (K + 5) 6 [f.v, b.v] []) := by
  obtain ⟨c, d, q, hc⟩ := tot12 K hK f b h
  obtain rfl := hc.2 ⟨⟨hv, hl⟩, hacc⟩
  unfold Fl.v Bd.v at *
  rw [callF_eq tbl6, c6]
  have ga := Sl.ls h.hf.a
  have gr := Sl.ls h.hf.r
  have gn := Sl.ls h.hf.n
  have gc := Sl.ls h.hb
  have hlc := lenC h.hb
  have hln := lenN h.hf
  have hC := h.hC
  have hN := h.hN
  have hd := head_bd hv
  have MC : b.C.length < K + 4 := by omega
  have MN : f.N.length < K + 4 := by omega
  have fbr : ∀ g, (bF f).ren g = some (bF f) := fun g => by unfold bF; simp [Blk.ren, renL, ga.all, gr.all, gn.all]
  have fbe : (bF f).es = [[.int .i64 f.ins, .int .i64 f.par, .bool f.loop, f.va, f.vr, f.vn]] := rfl
  have fbb : (bF f).box = true := rfl
  have hbr : ∀ g, (bxB b).ren g = some (bxB b) := fun g => by unfold bxB; simp [Blk.ren, renL, gc.all]
  have hbe : (bxB b).es = [[.int .i64 b.kd, .int .i64 b.ii, b.vc, .int .i64 b.rs]] := rfl
  have hbb : (bxB b).box = true := rfl
  obtain ⟨-, -, hacc⟩ := hacc
  by_cases k2 : b.kd = 2
  · have e2 : decide (b.kd = 2) = true := by simp [k2]
    have hpos : PosP f.A b.C (b.ii - 1) := by
      rcases hacc with h1 | h1 | h1 | h1
      · omega
      · exact h1.2.2
      · omega
      · omega
    have hin : ∀ k, k < b.C.length → inr f.A b.C k := fun k hk => (hpos.1 k hk).1
    have hfr : ∀ j, j < b.C.length → 0 ≤ (cA f.A b.C j).fr := fun j hj => (cA_ok (h.okA hv) (hin j hj)).1.1
    have hcomp := fsL_comp (f := f) k2 hfr f.N.length hd.2.2.2.2.symm
    have hfl := fsL_len f b b.C.length
    rcases loop_go (t0 := T6e b.vc b.C.length 0 [bF f] false) (pre := tidy [2, 5, 19, 20, 21] 0) (fun k t hk ht => g6a (callF tbl pu (K + 4)) (K + 4) f b h hin k hk t ht) (fun t ht => x6a (callF tbl pu (K + 4)) (K + 4) _ _ _ _ t ht) ⟨false, .inl ⟨rfl, rfl⟩⟩ with ⟨t, ⟨d2, ht⟩, hl2⟩ | ⟨r, hr, hl2⟩
    case inr => exact hr.elim
    generalize fsL f b b.C.length = L at *
    generalize crL f b f.N.length = R at *
    rcases ht with ⟨rfl, rfl⟩ | ⟨hl0, rfl⟩
    · obtain rfl : R = [] := by rw [← hcomp]; simp [compact, compactUpTo]
      simp (contextual := true) (maxSteps := 10000000) (implicitDefEqProofs := false) [callV_pu, q, e2, hlc, ga.all, gr.all, gn.all, gc.all, execC_loop, -kIter_succ, kCond_kc, kc_kif, ↓kif_tr, ↓kif_fl, kif_tr, kif_fl, kif_same, ↓kif_not, ↓kif_or, ↓kifg_tr, ↓kifg_fl, ↓kifg_not, ↓kifg_or, ↓kifg_and, kifg_kif, kifB_t, kifB_f, kifB_ft, kifB_tt, kif_bool, kif_int, mergeL, mergeV, mergeS, mergeRs, kSeq_kif, kBlk_kif, kPost_kif, kNext_kif, kFin_kif, kReg_kif, kOps_kif, kO_kif, kG_kif, kDrw_kif, kW_kif, kOpsW_kif, kRet_kif, map_kif, bind_kif, kWant_t, kWant_f, kWant_kif, ↓execI_pick, kPick_bool, kPick_kif, ↓execI_iadr, kIadr_sl, ↓execI_idxs, kIdxs_str, ↓execI_len, ↓rdB_ld, kRd_ptr, kRd_tptr, kRd_tup, kRd_kif, kOpsW_bs, gt0, st0, gt1, st1, gt2, st2, gt3, st3, gt4, st4, gt5, st5, gt6, st6, gt7, st7, gt8, st8, -kWant_bool, -Int.not_le, -Int.not_lt, -decide_eq_true_eq, -decide_eq_false_iff_not, -List.getD_eq_getElem?_getD, -List.set_cons_succ, -List.set_cons_zero, -Bool.and_eq_true, -Bool.or_eq_true, -Bool.not_eq_eq_eq_not, -Bool.or_eq_false_iff, -Bool.and_eq_false_imp, -Bool.not_eq_true, -Bool.not_eq_false]
      rw [hl2 _ _ MC (by simp (contextual := true) (maxSteps := 10000000) (implicitDefEqProofs := false) [T6e, bF, tidy, ga.all, gr.all, gn.all, gc.all, kCond_kc, kc_kif, ↓kif_tr, ↓kif_fl, kif_tr, kif_fl, kif_same, ↓kif_not, ↓kif_or, ↓kifg_tr, ↓kifg_fl, ↓kifg_not, ↓kifg_or, ↓kifg_and, kifg_kif, kifB_t, kifB_f, kifB_ft, kifB_tt, kif_bool, kif_int, mergeL, mergeV, mergeS, mergeRs, kSeq_kif, kBlk_kif, kPost_kif, kNext_kif, kFin_kif, kReg_kif, kOps_kif, kO_kif, kG_kif, kDrw_kif, kW_kif, kOpsW_kif, kRet_kif, map_kif, bind_kif, kWant_t, kWant_f, kWant_kif, ↓execI_pick, kPick_bool, kPick_kif, ↓execI_iadr, kIadr_sl, ↓execI_idxs, kIdxs_str, ↓execI_len, ↓rdB_ld, kRd_ptr, kRd_tptr, kRd_tup, kRd_kif, kOpsW_bs, gt0, st0, gt1, st1, gt2, st2, gt3, st3, gt4, st4, gt5, st5, gt6, st6, gt7, st7, gt8, st8, -kWant_bool, -Int.not_le, -Int.not_lt, -decide_eq_true_eq, -decide_eq_false_iff_not, -List.getD_eq_getElem?_getD, -List.set_cons_succ, -List.set_cons_zero, -Bool.and_eq_true, -Bool.or_eq_true, -Bool.not_eq_eq_eq_not, -Bool.or_eq_false_iff, -Bool.and_eq_false_imp, -Bool.not_eq_true, -Bool.not_eq_false])]
      simp (contextual := true) (maxSteps := 10000000) (implicitDefEqProofs := false) [T6e, c6_b1, call13n, call14n, fbr, fbe, fbb, ga.all, gr.all, gn.all, gc.all, RtG_nils, kCond_kc, kc_kif, ↓kif_tr, ↓kif_fl, kif_tr, kif_fl, kif_same, ↓kif_not, ↓kif_or, ↓kifg_tr, ↓kifg_fl, ↓kifg_not, ↓kifg_or, ↓kifg_and, kifg_kif, kifB_t, kifB_f, kifB_ft, kifB_tt, kif_bool, kif_int, mergeL, mergeV, mergeS, mergeRs, kSeq_kif, kBlk_kif, kPost_kif, kNext_kif, kFin_kif, kReg_kif, kOps_kif, kO_kif, kG_kif, kDrw_kif, kW_kif, kOpsW_kif, kRet_kif, map_kif, bind_kif, kWant_t, kWant_f, kWant_kif, ↓execI_pick, kPick_bool, kPick_kif, ↓execI_iadr, kIadr_sl, ↓execI_idxs, kIdxs_str, ↓execI_len, ↓rdB_ld, kRd_ptr, kRd_tptr, kRd_tup, kRd_kif, kOpsW_bs, gt0, st0, gt1, st1, gt2, st2, gt3, st3, gt4, st4, gt5, st5, gt6, st6, gt7, st7, gt8, st8, -kWant_bool, -Int.not_le, -Int.not_lt, -decide_eq_true_eq, -decide_eq_false_iff_not, -List.getD_eq_getElem?_getD, -List.set_cons_succ, -List.set_cons_zero, -Bool.and_eq_true, -Bool.or_eq_true, -Bool.not_eq_eq_eq_not, -Bool.or_eq_false_iff, -Bool.and_eq_false_imp, -Bool.not_eq_true, -Bool.not_eq_false]
    · have q13 := call13 (K + 3) L (by omega) (bF f)
      have q14 := call14 (K + 3) (L.mergeSort leZ) L.length (by rw [List.length_mergeSort]) (by rw [List.length_mergeSort]; omega) (bF f)
      rw [hcomp] at q14
      have hR : 0 < R.length := by
        have hx : L[0] ∈ L := List.getElem_mem hl0
        have hm : L[0] ∈ L.mergeSort leZ := List.mem_mergeSort.2 hx
        rw [← hcomp]
        have := (comp_up (L.mergeSort leZ).toArray (fun i j hij hj => by
          have hj' : j < (L.mergeSort leZ).length := by simpa using hj
          rw [getElem!_pos _ i (by simp at hj ⊢; omega), getElem!_pos _ j hj]
          by_cases e : i = j
          · subst e; exact Int.le_refl _
          · have := List.pairwise_iff_getElem.1 (List.pairwise_mergeSort leZ_trans leZ_total L) i j (by omega) hj' (by omega)
            simpa [leZ] using this) (L.mergeSort leZ).length (by simp)).2.2 L[0]
        obtain ⟨j, g1, g2⟩ := List.getElem_of_mem hm
        have hmem := this.2 ⟨j, g1, by rw [getElem!_pos _ j (by simpa using g1)]; simpa using g2⟩
        exact List.length_pos_of_mem hmem
      have hRL : R.length ≤ L.length := by rw [← hcomp]; exact Nat.le_trans (compact_len _) (by rw [List.length_mergeSort]; exact Nat.le_refl _)
      have hM : (compZ (L.mergeSort leZ)).length = L.length := by rw [compZ_len, List.length_mergeSort]
      have hT : ((compZ (L.mergeSort leZ)).map ivs).take R.length = R.map ivs := by
        unfold compZ
        rw [hcomp, List.map_append, List.take_append_of_le_length (by simp)]
        exact List.take_of_length_le (by simp)
      have hfin := fun d => RtG_sl (d := d) (L := L.length) (M := compZ (L.mergeSort leZ)) hR hM hT hRL
      generalize RtG R = RR at *
      simp (contextual := true) (maxSteps := 10000000) (implicitDefEqProofs := false) [callV_pu, q, e2, hlc, ga.all, gr.all, gn.all, gc.all, execC_loop, -kIter_succ, kCond_kc, kc_kif, ↓kif_tr, ↓kif_fl, kif_tr, kif_fl, kif_same, ↓kif_not, ↓kif_or, ↓kifg_tr, ↓kifg_fl, ↓kifg_not, ↓kifg_or, ↓kifg_and, kifg_kif, kifB_t, kifB_f, kifB_ft, kifB_tt, kif_bool, kif_int, mergeL, mergeV, mergeS, mergeRs, kSeq_kif, kBlk_kif, kPost_kif, kNext_kif, kFin_kif, kReg_kif, kOps_kif, kO_kif, kG_kif, kDrw_kif, kW_kif, kOpsW_kif, kRet_kif, map_kif, bind_kif, kWant_t, kWant_f, kWant_kif, ↓execI_pick, kPick_bool, kPick_kif, ↓execI_iadr, kIadr_sl, ↓execI_idxs, kIdxs_str, ↓execI_len, ↓rdB_ld, kRd_ptr, kRd_tptr, kRd_tup, kRd_kif, kOpsW_bs, gt0, st0, gt1, st1, gt2, st2, gt3, st3, gt4, st4, gt5, st5, gt6, st6, gt7, st7, gt8, st8, -kWant_bool, -Int.not_le, -Int.not_lt, -decide_eq_true_eq, -decide_eq_false_iff_not, -List.getD_eq_getElem?_getD, -List.set_cons_succ, -List.set_cons_zero, -Bool.and_eq_true, -Bool.or_eq_true, -Bool.not_eq_eq_eq_not, -Bool.or_eq_false_iff, -Bool.and_eq_false_imp, -Bool.not_eq_true, -Bool.not_eq_false]
      rw [hl2 _ _ MC (by simp (contextual := true) (maxSteps := 10000000) (implicitDefEqProofs := false) [T6e, bF, tidy, ga.all, gr.all, gn.all, gc.all, kCond_kc, kc_kif, ↓kif_tr, ↓kif_fl, kif_tr, kif_fl, kif_same, ↓kif_not, ↓kif_or, ↓kifg_tr, ↓kifg_fl, ↓kifg_not, ↓kifg_or, ↓kifg_and, kifg_kif, kifB_t, kifB_f, kifB_ft, kifB_tt, kif_bool, kif_int, mergeL, mergeV, mergeS, mergeRs, kSeq_kif, kBlk_kif, kPost_kif, kNext_kif, kFin_kif, kReg_kif, kOps_kif, kO_kif, kG_kif, kDrw_kif, kW_kif, kOpsW_kif, kRet_kif, map_kif, bind_kif, kWant_t, kWant_f, kWant_kif, ↓execI_pick, kPick_bool, kPick_kif, ↓execI_iadr, kIadr_sl, ↓execI_idxs, kIdxs_str, ↓execI_len, ↓rdB_ld, kRd_ptr, kRd_tptr, kRd_tup, kRd_kif, kOpsW_bs, gt0, st0, gt1, st1, gt2, st2, gt3, st3, gt4, st4, gt5, st5, gt6, st6, gt7, st7, gt8, st8, -kWant_bool, -Int.not_le, -Int.not_lt, -decide_eq_true_eq, -decide_eq_false_iff_not, -List.getD_eq_getElem?_getD, -List.set_cons_succ, -List.set_cons_zero, -Bool.and_eq_true, -Bool.or_eq_true, -Bool.not_eq_eq_eq_not, -Bool.or_eq_false_iff, -Bool.and_eq_false_imp, -Bool.not_eq_true, -Bool.not_eq_false])]
      simp (contextual := true) (maxSteps := 10000000) (implicitDefEqProofs := false) [T6n, c6_b1, q13, q14, fbr, fbe, fbb, bxI_ren, bxI_box, ga.all, gr.all, gn.all, gc.all, hfin, kCond_kc, kc_kif, ↓kif_tr, ↓kif_fl, kif_tr, kif_fl, kif_same, ↓kif_not, ↓kif_or, ↓kifg_tr, ↓kifg_fl, ↓kifg_not, ↓kifg_or, ↓kifg_and, kifg_kif, kifB_t, kifB_f, kifB_ft, kifB_tt, kif_bool, kif_int, mergeL, mergeV, mergeS, mergeRs, kSeq_kif, kBlk_kif, kPost_kif, kNext_kif, kFin_kif, kReg_kif, kOps_kif, kO_kif, kG_kif, kDrw_kif, kW_kif, kOpsW_kif, kRet_kif, map_kif, bind_kif, kWant_t, kWant_f, kWant_kif, ↓execI_pick, kPick_bool, kPick_kif, ↓execI_iadr, kIadr_sl, ↓execI_idxs, kIdxs_str, ↓execI_len, ↓rdB_ld, kRd_ptr, kRd_tptr, kRd_tup, kRd_kif, kOpsW_bs, gt0, st0, gt1, st1, gt2, st2, gt3, st3, gt4, st4, gt5, st5, gt6, st6, gt7, st7, gt8, st8, -kWant_bool, -Int.not_le, -Int.not_lt, -decide_eq_true_eq, -decide_eq_false_iff_not, -List.getD_eq_getElem?_getD, -List.set_cons_succ, -List.set_cons_zero, -Bool.and_eq_true, -Bool.or_eq_true, -Bool.not_eq_eq_eq_not, -Bool.or_eq_false_iff, -Bool.and_eq_false_imp, -Bool.not_eq_true, -Bool.not_eq_false]
  · have e2 : decide (b.kd = 2) = false := by simp [k2]
    have hcl := crL_len f b f.N.length
    rcases loop_go (t0 := T6be f.vn f.N.length 0 [bxB b] false) (pre := tidy [3, 5, 45, 46, 47] 0) (fun k t hk ht => g6b (callF tbl pu (K + 4)) (K + 4) f b h k2 k hk t ht) (fun t ht => x6b (callF tbl pu (K + 4)) (K + 4) _ _ _ _ t ht) ⟨false, .inl ⟨rfl, rfl⟩⟩ with ⟨t, ⟨d2, ht⟩, hl2⟩ | ⟨r, hr, hl2⟩
    case inr => exact hr.elim
    generalize crL f b f.N.length = R at *
    rcases ht with ⟨rfl, rfl⟩ | ⟨hl0, rfl⟩
    · simp (contextual := true) (maxSteps := 10000000) (implicitDefEqProofs := false) [callV_pu, q, e2, hln, ga.all, gr.all, gn.all, gc.all, execC_loop, -kIter_succ, kCond_kc, kc_kif, ↓kif_tr, ↓kif_fl, kif_tr, kif_fl, kif_same, ↓kif_not, ↓kif_or, ↓kifg_tr, ↓kifg_fl, ↓kifg_not, ↓kifg_or, ↓kifg_and, kifg_kif, kifB_t, kifB_f, kifB_ft, kifB_tt, kif_bool, kif_int, mergeL, mergeV, mergeS, mergeRs, kSeq_kif, kBlk_kif, kPost_kif, kNext_kif, kFin_kif, kReg_kif, kOps_kif, kO_kif, kG_kif, kDrw_kif, kW_kif, kOpsW_kif, kRet_kif, map_kif, bind_kif, kWant_t, kWant_f, kWant_kif, ↓execI_pick, kPick_bool, kPick_kif, ↓execI_iadr, kIadr_sl, ↓execI_idxs, kIdxs_str, ↓execI_len, ↓rdB_ld, kRd_ptr, kRd_tptr, kRd_tup, kRd_kif, kOpsW_bs, gt0, st0, gt1, st1, gt2, st2, gt3, st3, gt4, st4, gt5, st5, gt6, st6, gt7, st7, gt8, st8, -kWant_bool, -Int.not_le, -Int.not_lt, -decide_eq_true_eq, -decide_eq_false_iff_not, -List.getD_eq_getElem?_getD, -List.set_cons_succ, -List.set_cons_zero, -Bool.and_eq_true, -Bool.or_eq_true, -Bool.not_eq_eq_eq_not, -Bool.or_eq_false_iff, -Bool.and_eq_false_imp, -Bool.not_eq_true, -Bool.not_eq_false]
      rw [hl2 _ _ MN (by simp (contextual := true) (maxSteps := 10000000) (implicitDefEqProofs := false) [T6be, bxB, tidy, ga.all, gr.all, gn.all, gc.all, kCond_kc, kc_kif, ↓kif_tr, ↓kif_fl, kif_tr, kif_fl, kif_same, ↓kif_not, ↓kif_or, ↓kifg_tr, ↓kifg_fl, ↓kifg_not, ↓kifg_or, ↓kifg_and, kifg_kif, kifB_t, kifB_f, kifB_ft, kifB_tt, kif_bool, kif_int, mergeL, mergeV, mergeS, mergeRs, kSeq_kif, kBlk_kif, kPost_kif, kNext_kif, kFin_kif, kReg_kif, kOps_kif, kO_kif, kG_kif, kDrw_kif, kW_kif, kOpsW_kif, kRet_kif, map_kif, bind_kif, kWant_t, kWant_f, kWant_kif, ↓execI_pick, kPick_bool, kPick_kif, ↓execI_iadr, kIadr_sl, ↓execI_idxs, kIdxs_str, ↓execI_len, ↓rdB_ld, kRd_ptr, kRd_tptr, kRd_tup, kRd_kif, kOpsW_bs, gt0, st0, gt1, st1, gt2, st2, gt3, st3, gt4, st4, gt5, st5, gt6, st6, gt7, st7, gt8, st8, -kWant_bool, -Int.not_le, -Int.not_lt, -decide_eq_true_eq, -decide_eq_false_iff_not, -List.getD_eq_getElem?_getD, -List.set_cons_succ, -List.set_cons_zero, -Bool.and_eq_true, -Bool.or_eq_true, -Bool.not_eq_eq_eq_not, -Bool.or_eq_false_iff, -Bool.and_eq_false_imp, -Bool.not_eq_true, -Bool.not_eq_false])]
      simp (contextual := true) (maxSteps := 10000000) (implicitDefEqProofs := false) [T6be, c6_b0, hbr, hbe, hbb, ga.all, gr.all, gn.all, gc.all, RtG_nils, kCond_kc, kc_kif, ↓kif_tr, ↓kif_fl, kif_tr, kif_fl, kif_same, ↓kif_not, ↓kif_or, ↓kifg_tr, ↓kifg_fl, ↓kifg_not, ↓kifg_or, ↓kifg_and, kifg_kif, kifB_t, kifB_f, kifB_ft, kifB_tt, kif_bool, kif_int, mergeL, mergeV, mergeS, mergeRs, kSeq_kif, kBlk_kif, kPost_kif, kNext_kif, kFin_kif, kReg_kif, kOps_kif, kO_kif, kG_kif, kDrw_kif, kW_kif, kOpsW_kif, kRet_kif, map_kif, bind_kif, kWant_t, kWant_f, kWant_kif, ↓execI_pick, kPick_bool, kPick_kif, ↓execI_iadr, kIadr_sl, ↓execI_idxs, kIdxs_str, ↓execI_len, ↓rdB_ld, kRd_ptr, kRd_tptr, kRd_tup, kRd_kif, kOpsW_bs, gt0, st0, gt1, st1, gt2, st2, gt3, st3, gt4, st4, gt5, st5, gt6, st6, gt7, st7, gt8, st8, -kWant_bool, -Int.not_le, -Int.not_lt, -decide_eq_true_eq, -decide_eq_false_iff_not, -List.getD_eq_getElem?_getD, -List.set_cons_succ, -List.set_cons_zero, -Bool.and_eq_true, -Bool.or_eq_true, -Bool.not_eq_eq_eq_not, -Bool.or_eq_false_iff, -Bool.and_eq_false_imp, -Bool.not_eq_true, -Bool.not_eq_false]
    · have hfin := fun d => RtG_sl (d := d) (L := R.length) (M := R) hl0 rfl (List.take_of_length_le (by simp)) (Nat.le_refl _)
      generalize RtG R = RR at *
      simp (contextual := true) (maxSteps := 10000000) (implicitDefEqProofs := false) [callV_pu, q, e2, hln, ga.all, gr.all, gn.all, gc.all, execC_loop, -kIter_succ, kCond_kc, kc_kif, ↓kif_tr, ↓kif_fl, kif_tr, kif_fl, kif_same, ↓kif_not, ↓kif_or, ↓kifg_tr, ↓kifg_fl, ↓kifg_not, ↓kifg_or, ↓kifg_and, kifg_kif, kifB_t, kifB_f, kifB_ft, kifB_tt, kif_bool, kif_int, mergeL, mergeV, mergeS, mergeRs, kSeq_kif, kBlk_kif, kPost_kif, kNext_kif, kFin_kif, kReg_kif, kOps_kif, kO_kif, kG_kif, kDrw_kif, kW_kif, kOpsW_kif, kRet_kif, map_kif, bind_kif, kWant_t, kWant_f, kWant_kif, ↓execI_pick, kPick_bool, kPick_kif, ↓execI_iadr, kIadr_sl, ↓execI_idxs, kIdxs_str, ↓execI_len, ↓rdB_ld, kRd_ptr, kRd_tptr, kRd_tup, kRd_kif, kOpsW_bs, gt0, st0, gt1, st1, gt2, st2, gt3, st3, gt4, st4, gt5, st5, gt6, st6, gt7, st7, gt8, st8, -kWant_bool, -Int.not_le, -Int.not_lt, -decide_eq_true_eq, -decide_eq_false_iff_not, -List.getD_eq_getElem?_getD, -List.set_cons_succ, -List.set_cons_zero, -Bool.and_eq_true, -Bool.or_eq_true, -Bool.not_eq_eq_eq_not, -Bool.or_eq_false_iff, -Bool.and_eq_false_imp, -Bool.not_eq_true, -Bool.not_eq_false]
      rw [hl2 _ _ MN (by simp (contextual := true) (maxSteps := 10000000) (implicitDefEqProofs := false) [T6be, bxB, tidy, ga.all, gr.all, gn.all, gc.all, kCond_kc, kc_kif, ↓kif_tr, ↓kif_fl, kif_tr, kif_fl, kif_same, ↓kif_not, ↓kif_or, ↓kifg_tr, ↓kifg_fl, ↓kifg_not, ↓kifg_or, ↓kifg_and, kifg_kif, kifB_t, kifB_f, kifB_ft, kifB_tt, kif_bool, kif_int, mergeL, mergeV, mergeS, mergeRs, kSeq_kif, kBlk_kif, kPost_kif, kNext_kif, kFin_kif, kReg_kif, kOps_kif, kO_kif, kG_kif, kDrw_kif, kW_kif, kOpsW_kif, kRet_kif, map_kif, bind_kif, kWant_t, kWant_f, kWant_kif, ↓execI_pick, kPick_bool, kPick_kif, ↓execI_iadr, kIadr_sl, ↓execI_idxs, kIdxs_str, ↓execI_len, ↓rdB_ld, kRd_ptr, kRd_tptr, kRd_tup, kRd_kif, kOpsW_bs, gt0, st0, gt1, st1, gt2, st2, gt3, st3, gt4, st4, gt5, st5, gt6, st6, gt7, st7, gt8, st8, -kWant_bool, -Int.not_le, -Int.not_lt, -decide_eq_true_eq, -decide_eq_false_iff_not, -List.getD_eq_getElem?_getD, -List.set_cons_succ, -List.set_cons_zero, -Bool.and_eq_true, -Bool.or_eq_true, -Bool.not_eq_eq_eq_not, -Bool.or_eq_false_iff, -Bool.and_eq_false_imp, -Bool.not_eq_true, -Bool.not_eq_false])]
      simp (contextual := true) (maxSteps := 10000000) (implicitDefEqProofs := false) [T6bn, c6_b0, hbr, hbe, hbb, bxI_ren, bxI_box, ga.all, gr.all, gn.all, gc.all, hfin, kCond_kc, kc_kif, ↓kif_tr, ↓kif_fl, kif_tr, kif_fl, kif_same, ↓kif_not, ↓kif_or, ↓kifg_tr, ↓kifg_fl, ↓kifg_not, ↓kifg_or, ↓kifg_and, kifg_kif, kifB_t, kifB_f, kifB_ft, kifB_tt, kif_bool, kif_int, mergeL, mergeV, mergeS, mergeRs, kSeq_kif, kBlk_kif, kPost_kif, kNext_kif, kFin_kif, kReg_kif, kOps_kif, kO_kif, kG_kif, kDrw_kif, kW_kif, kOpsW_kif, kRet_kif, map_kif, bind_kif, kWant_t, kWant_f, kWant_kif, ↓execI_pick, kPick_bool, kPick_kif, ↓execI_iadr, kIadr_sl, ↓execI_idxs, kIdxs_str, ↓execI_len, ↓rdB_ld, kRd_ptr, kRd_tptr, kRd_tup, kRd_kif, kOpsW_bs, gt0, st0, gt1, st1, gt2, st2, gt3, st3, gt4, st4, gt5, st5, gt6, st6, gt7, st7, gt8, st8, -kWant_bool, -Int.not_le, -Int.not_lt, -decide_eq_true_eq, -decide_eq_false_iff_not, -List.getD_eq_getElem?_getD, -List.set_cons_succ, -List.set_cons_zero, -Bool.and_eq_true, -Bool.or_eq_true, -Bool.not_eq_eq_eq_not, -Bool.or_eq_false_iff, -Bool.and_eq_false_imp, -Bool.not_eq_true, -Bool.not_eq_false]
end Go.AM.Ytdgineiemjplhaa
