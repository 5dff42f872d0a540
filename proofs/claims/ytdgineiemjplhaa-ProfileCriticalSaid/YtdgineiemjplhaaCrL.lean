/- jacquardref56.Critical: its inner loop. -/
import Derived.Test.YtdgineiemjplhaaCrJ
set_option linter.unusedVariables false
set_option linter.unusedSimpArgs false
namespace Go.AM.Ytdgineiemjplhaa
open Go Go.AM Go.Lib
set_option maxRecDepth 100000
set_option maxHeartbeats 0
attribute [local congr] kif_congr
def hasK (f : Fl) (b : Bd) (i k : Nat) : Bool := (List.range k).any fun k => decide ((cA f.A b.C k).fr = i)
theorem hasK_succ (f : Fl) (b : Bd) (i k : Nat) : hasK f b i (k + 1) = (hasK f b i k || decide ((arcAt f.A (cyAt b.C k).toNat).fr = i)) := by
  simp only [hasK, List.range_succ, List.any_append, List.any_cons, List.any_nil, Bool.or_false]
  rfl
def T10e (ins : Int) (i : Nat) (is : Bool) (m k : Nat) (vc : V) (H : Heap) (d : Bool) : St := ⟨[.undef, .undef, .ptr 0 1 0 0, .ptr 1 1 0 0, .undef, .nils, .int .i64 i, .bool is, .undef, .undef, .int .i64 ins, .int .i64 i, .undef, .undef, .undef, .undef, .undef, .undef, .undef, .undef, .int .i64 m, .int .i64 k, .undef, .undef, .undef, .undef, .undef, .undef, .undef, .undef, .undef, .undef, .undef, .undef, .undef, .undef, .undef, .undef, .undef, .undef, .undef, .undef, .undef, .undef, .undef, .undef, .undef, .undef, .undef, .undef, .undef, .undef, .undef, .undef, .undef, .undef, .undef, .undef, .undef, .undef, .undef, .undef, .undef, .undef, .undef, .undef, .undef, .undef, .undef, .undef, .undef, .undef, .undef, .undef, .undef, .undef, .undef, .undef, .undef, .undef], H, d⟩
def T10n (l : Nat) (ins : Int) (i : Nat) (is : Bool) (m k : Nat) (vc : V) (H : Heap) (d : Bool) : St := ⟨[.undef, .undef, .ptr 0 1 0 0, .ptr 1 1 0 0, .undef, .sl 1 2 l 0 l, .int .i64 i, .bool is, .undef, .undef, .int .i64 ins, .int .i64 i, .undef, .undef, .undef, .undef, .undef, .undef, .undef, .undef, .int .i64 m, .int .i64 k, .undef, .undef, .undef, .undef, .undef, .undef, .undef, .undef, .undef, .undef, .undef, .undef, .undef, .undef, .undef, .undef, .undef, .undef, .undef, .undef, .undef, .undef, .undef, .undef, .undef, .undef, .undef, .undef, .undef, .undef, .undef, .undef, .undef, .undef, .undef, .undef, .undef, .undef, .undef, .undef, .undef, .undef, .undef, .undef, .undef, .undef, .undef, .undef, .undef, .undef, .undef, .undef, .undef, .undef, .undef, .undef, .undef, .undef], H, d⟩
def J10i (f : Fl) (b : Bd) (L : List Int) (i : Nat) (is : Bool) (k : Nat) (t : St) : Prop := ∃ d, (L = [] ∧ t = T10e f.ins i is b.C.length k b.vc [bF f, bxB b] d) ∨ (0 < L.length ∧ t = T10n L.length f.ins i is b.C.length k b.vc [bF f, bxB b, bxI L] d)
theorem g10i (call : CallT) (K : Nat) (f : Fl) (b : Bd) (h : Env f b) (hin : ∀ k, k < b.C.length → inr f.A b.C k) (L : List Int) (i k : Nat) (hk : k < b.C.length) (t : St) (ht : J10i f b L i (hasK f b i k) k t) :
    Go1 (tidy [2, 3, 5, 6, 7, 10, 11, 20, 21] 0) (J10i f b L i (hasK f b i (k + 1)) (k + 1)) (fun _ => False) (execC call pu 0 K c10_b0 t) := by
  obtain ⟨d, ht⟩ := ht
  have ga := Sl.ls h.hf.a
  have gr := Sl.ls h.hf.r
  have gn := Sl.ls h.hf.n
  have gc := Sl.ls h.hb
  have hla := lenA h.hf
  have hlc := lenC h.hb
  have hC := h.hC
  have h1 : IntKind.i64.wrap ((k : Int) + 1) = (k : Int) + 1 := wrap64 (by omega) (by omega)
  have h3 : decide (b.C.length ≤ k) = false := by simp; omega
  have h4 : decide (k < b.C.length) = true := by simp; omega
  have hr1 := rowC h.hb hk
  have hik := hin k hk
  have e1 : decide (cyAt b.C k < 0) = false := by have := hik.1; simp; omega
  have e2 : decide ((f.A.length : Int) ≤ cyAt b.C k) = false := by have := hik.2; simp; omega
  have hra := rowA h.hf (i := (cyAt b.C k).toNat) (by have := hik.1; have := hik.2; omega)
  rw [hasK_succ]
  generalize arcAt f.A (cyAt b.C k).toNat = x at *
  generalize hasK f b i k = is at *
  cases is with
  | true =>
    rw [Bool.true_or]
    rcases ht with ⟨hl0, rfl⟩ | ⟨hl0, rfl⟩
    · have fin : ∀ d, J10i f b L i true (k + 1) (T10e f.ins i true b.C.length (k + 1) b.vc [bF f, bxB b] d) := fun d => ⟨d, .inl ⟨hl0, rfl⟩⟩
      generalize J10i f b L i true (k + 1) = II at fin ⊢
      simp only [T10e, T10n, bF, bxB, Int.natCast_add, Int.natCast_one] at fin
      unfold c10_b0 T10e bF bxB
      simp (contextual := true) (maxSteps := 10000000) (implicitDefEqProofs := false) [c10_r0, c10_a0, hla, hlc, h1, h3, h4, hr1, e1, e2, hra, ga.all, gr.all, gn.all, gc.all, kIadr_LS ga, kIadr_LS gc, h1, freezeH, fin, Go1_kif, Go1_ret, Go1_normal, Go1_exit, RtF_ret, ex_eq, ex_eq2, tidy, kCond_kc, kc_kif, ↓kif_tr, ↓kif_fl, kif_tr, kif_fl, kif_same, ↓kif_not, ↓kif_or, ↓kifg_tr, ↓kifg_fl, ↓kifg_not, ↓kifg_or, ↓kifg_and, kifg_kif, kifB_t, kifB_f, kifB_ft, kifB_tt, kif_bool, kif_int, mergeL, mergeV, mergeS, mergeRs, kSeq_kif, kBlk_kif, kPost_kif, kNext_kif, kFin_kif, kReg_kif, kOps_kif, kO_kif, kG_kif, kDrw_kif, kW_kif, kOpsW_kif, kRet_kif, map_kif, bind_kif, kWant_t, kWant_f, kWant_kif, ↓execI_pick, kPick_bool, kPick_kif, ↓execI_iadr, kIadr_sl, ↓execI_idxs, kIdxs_str, ↓execI_len, ↓rdB_ld, kRd_ptr, kRd_tptr, kRd_tup, kRd_kif, kOpsW_bs, gt0, st0, gt1, st1, gt2, st2, gt3, st3, gt4, st4, gt5, st5, gt6, st6, gt7, st7, gt8, st8, -kWant_bool, -Int.not_le, -Int.not_lt, -decide_eq_true_eq, -decide_eq_false_iff_not, -List.getD_eq_getElem?_getD, -List.set_cons_succ, -List.set_cons_zero, -Bool.and_eq_true, -Bool.or_eq_true, -Bool.not_eq_eq_eq_not, -Bool.or_eq_false_iff, -Bool.and_eq_false_imp, -Bool.not_eq_true, -Bool.not_eq_false]
    · have fin : ∀ d, J10i f b L i true (k + 1) (T10n L.length f.ins i true b.C.length (k + 1) b.vc [bF f, bxB b, bxI L] d) := fun d => ⟨d, .inr ⟨hl0, rfl⟩⟩
      generalize J10i f b L i true (k + 1) = II at fin ⊢
      simp only [T10e, T10n, bF, bxB, Int.natCast_add, Int.natCast_one] at fin
      unfold c10_b0 T10n bF bxB
      simp (contextual := true) (maxSteps := 10000000) (implicitDefEqProofs := false) [c10_r0, c10_a0, hla, hlc, h1, h3, h4, hr1, e1, e2, hra, ga.all, gr.all, gn.all, gc.all, kIadr_LS ga, kIadr_LS gc, h1, bxI_ren, bxI_box, freezeH, fin, Go1_kif, Go1_ret, Go1_normal, Go1_exit, RtF_ret, ex_eq, ex_eq2, tidy, kCond_kc, kc_kif, ↓kif_tr, ↓kif_fl, kif_tr, kif_fl, kif_same, ↓kif_not, ↓kif_or, ↓kifg_tr, ↓kifg_fl, ↓kifg_not, ↓kifg_or, ↓kifg_and, kifg_kif, kifB_t, kifB_f, kifB_ft, kifB_tt, kif_bool, kif_int, mergeL, mergeV, mergeS, mergeRs, kSeq_kif, kBlk_kif, kPost_kif, kNext_kif, kFin_kif, kReg_kif, kOps_kif, kO_kif, kG_kif, kDrw_kif, kW_kif, kOpsW_kif, kRet_kif, map_kif, bind_kif, kWant_t, kWant_f, kWant_kif, ↓execI_pick, kPick_bool, kPick_kif, ↓execI_iadr, kIadr_sl, ↓execI_idxs, kIdxs_str, ↓execI_len, ↓rdB_ld, kRd_ptr, kRd_tptr, kRd_tup, kRd_kif, kOpsW_bs, gt0, st0, gt1, st1, gt2, st2, gt3, st3, gt4, st4, gt5, st5, gt6, st6, gt7, st7, gt8, st8, -kWant_bool, -Int.not_le, -Int.not_lt, -decide_eq_true_eq, -decide_eq_false_iff_not, -List.getD_eq_getElem?_getD, -List.set_cons_succ, -List.set_cons_zero, -Bool.and_eq_true, -Bool.or_eq_true, -Bool.not_eq_eq_eq_not, -Bool.or_eq_false_iff, -Bool.and_eq_false_imp, -Bool.not_eq_true, -Bool.not_eq_false]
  | false =>
    rw [Bool.false_or]
    by_cases a1 : x.fr = i
    · have d1 : decide (x.fr = (i : Int)) = true := by simp [a1]
      rw [d1]
      rcases ht with ⟨hl0, rfl⟩ | ⟨hl0, rfl⟩
      · have fin : ∀ d, J10i f b L i true (k + 1) (T10e f.ins i true b.C.length (k + 1) b.vc [bF f, bxB b] d) := fun d => ⟨d, .inl ⟨hl0, rfl⟩⟩
        generalize J10i f b L i true (k + 1) = II at fin ⊢
        simp only [T10e, T10n, bF, bxB, Int.natCast_add, Int.natCast_one] at fin
        unfold c10_b0 T10e bF bxB
        simp (contextual := true) (maxSteps := 10000000) (implicitDefEqProofs := false) [c10_r0, c10_a0, hla, hlc, h1, h3, h4, hr1, e1, e2, hra, ga.all, gr.all, gn.all, gc.all, kIadr_LS ga, kIadr_LS gc, d1, freezeH, fin, Go1_kif, Go1_ret, Go1_normal, Go1_exit, RtF_ret, ex_eq, ex_eq2, tidy, kCond_kc, kc_kif, ↓kif_tr, ↓kif_fl, kif_tr, kif_fl, kif_same, ↓kif_not, ↓kif_or, ↓kifg_tr, ↓kifg_fl, ↓kifg_not, ↓kifg_or, ↓kifg_and, kifg_kif, kifB_t, kifB_f, kifB_ft, kifB_tt, kif_bool, kif_int, mergeL, mergeV, mergeS, mergeRs, kSeq_kif, kBlk_kif, kPost_kif, kNext_kif, kFin_kif, kReg_kif, kOps_kif, kO_kif, kG_kif, kDrw_kif, kW_kif, kOpsW_kif, kRet_kif, map_kif, bind_kif, kWant_t, kWant_f, kWant_kif, ↓execI_pick, kPick_bool, kPick_kif, ↓execI_iadr, kIadr_sl, ↓execI_idxs, kIdxs_str, ↓execI_len, ↓rdB_ld, kRd_ptr, kRd_tptr, kRd_tup, kRd_kif, kOpsW_bs, gt0, st0, gt1, st1, gt2, st2, gt3, st3, gt4, st4, gt5, st5, gt6, st6, gt7, st7, gt8, st8, -kWant_bool, -Int.not_le, -Int.not_lt, -decide_eq_true_eq, -decide_eq_false_iff_not, -List.getD_eq_getElem?_getD, -List.set_cons_succ, -List.set_cons_zero, -Bool.and_eq_true, -Bool.or_eq_true, -Bool.not_eq_eq_eq_not, -Bool.or_eq_false_iff, -Bool.and_eq_false_imp, -Bool.not_eq_true, -Bool.not_eq_false]
      · have fin : ∀ d, J10i f b L i true (k + 1) (T10n L.length f.ins i true b.C.length (k + 1) b.vc [bF f, bxB b, bxI L] d) := fun d => ⟨d, .inr ⟨hl0, rfl⟩⟩
        generalize J10i f b L i true (k + 1) = II at fin ⊢
        simp only [T10e, T10n, bF, bxB, Int.natCast_add, Int.natCast_one] at fin
        unfold c10_b0 T10n bF bxB
        simp (contextual := true) (maxSteps := 10000000) (implicitDefEqProofs := false) [c10_r0, c10_a0, hla, hlc, h1, h3, h4, hr1, e1, e2, hra, ga.all, gr.all, gn.all, gc.all, kIadr_LS ga, kIadr_LS gc, d1, bxI_ren, bxI_box, freezeH, fin, Go1_kif, Go1_ret, Go1_normal, Go1_exit, RtF_ret, ex_eq, ex_eq2, tidy, kCond_kc, kc_kif, ↓kif_tr, ↓kif_fl, kif_tr, kif_fl, kif_same, ↓kif_not, ↓kif_or, ↓kifg_tr, ↓kifg_fl, ↓kifg_not, ↓kifg_or, ↓kifg_and, kifg_kif, kifB_t, kifB_f, kifB_ft, kifB_tt, kif_bool, kif_int, mergeL, mergeV, mergeS, mergeRs, kSeq_kif, kBlk_kif, kPost_kif, kNext_kif, kFin_kif, kReg_kif, kOps_kif, kO_kif, kG_kif, kDrw_kif, kW_kif, kOpsW_kif, kRet_kif, map_kif, bind_kif, kWant_t, kWant_f, kWant_kif, ↓execI_pick, kPick_bool, kPick_kif, ↓execI_iadr, kIadr_sl, ↓execI_idxs, kIdxs_str, ↓execI_len, ↓rdB_ld, kRd_ptr, kRd_tptr, kRd_tup, kRd_kif, kOpsW_bs, gt0, st0, gt1, st1, gt2, st2, gt3, st3, gt4, st4, gt5, st5, gt6, st6, gt7, st7, gt8, st8, -kWant_bool, -Int.not_le, -Int.not_lt, -decide_eq_true_eq, -decide_eq_false_iff_not, -List.getD_eq_getElem?_getD, -List.set_cons_succ, -List.set_cons_zero, -Bool.and_eq_true, -Bool.or_eq_true, -Bool.not_eq_eq_eq_not, -Bool.or_eq_false_iff, -Bool.and_eq_false_imp, -Bool.not_eq_true, -Bool.not_eq_false]
    · have d1 : decide (x.fr = (i : Int)) = false := by simp [a1]
      rw [d1]
      rcases ht with ⟨hl0, rfl⟩ | ⟨hl0, rfl⟩
      · have fin : ∀ d, J10i f b L i false (k + 1) (T10e f.ins i false b.C.length (k + 1) b.vc [bF f, bxB b] d) := fun d => ⟨d, .inl ⟨hl0, rfl⟩⟩
        generalize J10i f b L i false (k + 1) = II at fin ⊢
        simp only [T10e, T10n, bF, bxB, Int.natCast_add, Int.natCast_one] at fin
        unfold c10_b0 T10e bF bxB
        simp (contextual := true) (maxSteps := 10000000) (implicitDefEqProofs := false) [c10_r0, c10_a0, hla, hlc, h1, h3, h4, hr1, e1, e2, hra, ga.all, gr.all, gn.all, gc.all, kIadr_LS ga, kIadr_LS gc, d1, freezeH, fin, Go1_kif, Go1_ret, Go1_normal, Go1_exit, RtF_ret, ex_eq, ex_eq2, tidy, kCond_kc, kc_kif, ↓kif_tr, ↓kif_fl, kif_tr, kif_fl, kif_same, ↓kif_not, ↓kif_or, ↓kifg_tr, ↓kifg_fl, ↓kifg_not, ↓kifg_or, ↓kifg_and, kifg_kif, kifB_t, kifB_f, kifB_ft, kifB_tt, kif_bool, kif_int, mergeL, mergeV, mergeS, mergeRs, kSeq_kif, kBlk_kif, kPost_kif, kNext_kif, kFin_kif, kReg_kif, kOps_kif, kO_kif, kG_kif, kDrw_kif, kW_kif, kOpsW_kif, kRet_kif, map_kif, bind_kif, kWant_t, kWant_f, kWant_kif, ↓execI_pick, kPick_bool, kPick_kif, ↓execI_iadr, kIadr_sl, ↓execI_idxs, kIdxs_str, ↓execI_len, ↓rdB_ld, kRd_ptr, kRd_tptr, kRd_tup, kRd_kif, kOpsW_bs, gt0, st0, gt1, st1, gt2, st2, gt3, st3, gt4, st4, gt5, st5, gt6, st6, gt7, st7, gt8, st8, -kWant_bool, -Int.not_le, -Int.not_lt, -decide_eq_true_eq, -decide_eq_false_iff_not, -List.getD_eq_getElem?_getD, -List.set_cons_succ, -List.set_cons_zero, -Bool.and_eq_true, -Bool.or_eq_true, -Bool.not_eq_eq_eq_not, -Bool.or_eq_false_iff, -Bool.and_eq_false_imp, -Bool.not_eq_true, -Bool.not_eq_false]
      · have fin : ∀ d, J10i f b L i false (k + 1) (T10n L.length f.ins i false b.C.length (k + 1) b.vc [bF f, bxB b, bxI L] d) := fun d => ⟨d, .inr ⟨hl0, rfl⟩⟩
        generalize J10i f b L i false (k + 1) = II at fin ⊢
        simp only [T10e, T10n, bF, bxB, Int.natCast_add, Int.natCast_one] at fin
        unfold c10_b0 T10n bF bxB
        simp (contextual := true) (maxSteps := 10000000) (implicitDefEqProofs := false) [c10_r0, c10_a0, hla, hlc, h1, h3, h4, hr1, e1, e2, hra, ga.all, gr.all, gn.all, gc.all, kIadr_LS ga, kIadr_LS gc, d1, bxI_ren, bxI_box, freezeH, fin, Go1_kif, Go1_ret, Go1_normal, Go1_exit, RtF_ret, ex_eq, ex_eq2, tidy, kCond_kc, kc_kif, ↓kif_tr, ↓kif_fl, kif_tr, kif_fl, kif_same, ↓kif_not, ↓kif_or, ↓kifg_tr, ↓kifg_fl, ↓kifg_not, ↓kifg_or, ↓kifg_and, kifg_kif, kifB_t, kifB_f, kifB_ft, kifB_tt, kif_bool, kif_int, mergeL, mergeV, mergeS, mergeRs, kSeq_kif, kBlk_kif, kPost_kif, kNext_kif, kFin_kif, kReg_kif, kOps_kif, kO_kif, kG_kif, kDrw_kif, kW_kif, kOpsW_kif, kRet_kif, map_kif, bind_kif, kWant_t, kWant_f, kWant_kif, ↓execI_pick, kPick_bool, kPick_kif, ↓execI_iadr, kIadr_sl, ↓execI_idxs, kIdxs_str, ↓execI_len, ↓rdB_ld, kRd_ptr, kRd_tptr, kRd_tup, kRd_kif, kOpsW_bs, gt0, st0, gt1, st1, gt2, st2, gt3, st3, gt4, st4, gt5, st5, gt6, st6, gt7, st7, gt8, st8, -kWant_bool, -Int.not_le, -Int.not_lt, -decide_eq_true_eq, -decide_eq_false_iff_not, -List.getD_eq_getElem?_getD, -List.set_cons_succ, -List.set_cons_zero, -Bool.and_eq_true, -Bool.or_eq_true, -Bool.not_eq_eq_eq_not, -Bool.or_eq_false_iff, -Bool.and_eq_false_imp, -Bool.not_eq_true, -Bool.not_eq_false]
theorem x10i (call : CallT) (K : Nat) (f : Fl) (b : Bd) (L : List Int) (i : Nat) (is : Bool) (t : St) (ht : J10i f b L i is b.C.length t) : Nn (execC call pu 0 K c10_b0 t) := by
  obtain ⟨d, ht⟩ := ht
  rcases ht with ⟨hs, rfl⟩ | ⟨hs, rfl⟩
  · unfold c10_b0 T10e
    simp (contextual := true) (maxSteps := 10000000) (implicitDefEqProofs := false) [Nn_exit, kCond_kc, kc_kif, ↓kif_tr, ↓kif_fl, kif_tr, kif_fl, kif_same, ↓kif_not, ↓kif_or, ↓kifg_tr, ↓kifg_fl, ↓kifg_not, ↓kifg_or, ↓kifg_and, kifg_kif, kifB_t, kifB_f, kifB_ft, kifB_tt, kif_bool, kif_int, mergeL, mergeV, mergeS, mergeRs, kSeq_kif, kBlk_kif, kPost_kif, kNext_kif, kFin_kif, kReg_kif, kOps_kif, kO_kif, kG_kif, kDrw_kif, kW_kif, kOpsW_kif, kRet_kif, map_kif, bind_kif, kWant_t, kWant_f, kWant_kif, ↓execI_pick, kPick_bool, kPick_kif, ↓execI_iadr, kIadr_sl, ↓execI_idxs, kIdxs_str, ↓execI_len, ↓rdB_ld, kRd_ptr, kRd_tptr, kRd_tup, kRd_kif, kOpsW_bs, gt0, st0, gt1, st1, gt2, st2, gt3, st3, gt4, st4, gt5, st5, gt6, st6, gt7, st7, gt8, st8, -kWant_bool, -Int.not_le, -Int.not_lt, -decide_eq_true_eq, -decide_eq_false_iff_not, -List.getD_eq_getElem?_getD, -List.set_cons_succ, -List.set_cons_zero, -Bool.and_eq_true, -Bool.or_eq_true, -Bool.not_eq_eq_eq_not, -Bool.or_eq_false_iff, -Bool.and_eq_false_imp, -Bool.not_eq_true, -Bool.not_eq_false]
  · unfold c10_b0 T10n
    simp (contextual := true) (maxSteps := 10000000) (implicitDefEqProofs := false) [Nn_exit, kCond_kc, kc_kif, ↓kif_tr, ↓kif_fl, kif_tr, kif_fl, kif_same, ↓kif_not, ↓kif_or, ↓kifg_tr, ↓kifg_fl, ↓kifg_not, ↓kifg_or, ↓kifg_and, kifg_kif, kifB_t, kifB_f, kifB_ft, kifB_tt, kif_bool, kif_int, mergeL, mergeV, mergeS, mergeRs, kSeq_kif, kBlk_kif, kPost_kif, kNext_kif, kFin_kif, kReg_kif, kOps_kif, kO_kif, kG_kif, kDrw_kif, kW_kif, kOpsW_kif, kRet_kif, map_kif, bind_kif, kWant_t, kWant_f, kWant_kif, ↓execI_pick, kPick_bool, kPick_kif, ↓execI_iadr, kIadr_sl, ↓execI_idxs, kIdxs_str, ↓execI_len, ↓rdB_ld, kRd_ptr, kRd_tptr, kRd_tup, kRd_kif, kOpsW_bs, gt0, st0, gt1, st1, gt2, st2, gt3, st3, gt4, st4, gt5, st5, gt6, st6, gt7, st7, gt8, st8, -kWant_bool, -Int.not_le, -Int.not_lt, -decide_eq_true_eq, -decide_eq_false_iff_not, -List.getD_eq_getElem?_getD, -List.set_cons_succ, -List.set_cons_zero, -Bool.and_eq_true, -Bool.or_eq_true, -Bool.not_eq_eq_eq_not, -Bool.or_eq_false_iff, -Bool.and_eq_false_imp, -Bool.not_eq_true, -Bool.not_eq_false]
end Go.AM.Ytdgineiemjplhaa
